import Derived.Test.YtlifpafnkagofaaF1
import Derived.Test.YtlifpafnkagofaaS1
namespace Go.Proofs.Ytlifpafnkagofaa.F
open Go.RowKit Go.Sort Go.Proofs.Ytlifpafnkagofaa.B Go.Proofs.Ytlifpafnkagofaa.S
set_option linter.unusedVariables false
set_option linter.unusedSimpArgs false
set_option maxHeartbeats 4000000 in
theorem pcost (a k : Int) (ha : a ≤ 2147483648) (w : World) : Calls Try.prog 20 #[.agg #[.int .i64 a, .int .i64 k]] w fun e w' => e = .returned (.int .i64 (costS ⟨a, k⟩)) ∧ Gr w w' := by
  go_enter Try.func20, Try.ntmps20
  go_wp2
  all_goals try (exfalso; simp_all; done)
  all_goals
    go_ret
    refine ⟨ret_int ?_, (by repeat (first | exact Gr.refl _ | with_reducible apply Gr.alloc | with_reducible apply Gr.grow | with_reducible apply Gr.drewN | with_reducible apply Gr.drew))⟩
    try simp only [Bool.not_eq_true, win_not, win_iff, Bool.not_eq_false', beq_iff_eq, Bool.not_eq_true', beq_eq_false_iff_ne, decide_eq_true_eq, decide_eq_false_iff_not, bne_iff_ne, bne_eq_false_iff_eq, ne_eq, Int.not_lt, Int.not_le] at *
    try (rw [cost_quo (a := a) (k := k) (by omega) (by omega) (by omega) ha])
    unfold costS
    dsimp only
    repeat' split
    all_goals first | rfl | omega
set_option maxHeartbeats 4000000 in
theorem xcost (a k : Int) (ha : a ≤ 2147483648) (w : World) : Calls Try.prog 37 #[.agg #[.int .i64 a, .int .i64 k]] w fun e w' => e = .returned (.int .i64 (costS ⟨a, k⟩)) ∧ Gr w w' := by
  go_enter Try.func37, Try.ntmps37
  go_wp2
  all_goals try (exfalso; simp_all; done)
  all_goals
    go_ret
    refine ⟨ret_int ?_, (by repeat (first | exact Gr.refl _ | with_reducible apply Gr.alloc | with_reducible apply Gr.grow | with_reducible apply Gr.drewN | with_reducible apply Gr.drew))⟩
    try simp only [Bool.not_eq_true, win_not, win_iff, Bool.not_eq_false', beq_iff_eq, Bool.not_eq_true', beq_eq_false_iff_ne, decide_eq_true_eq, decide_eq_false_iff_not, bne_iff_ne, bne_eq_false_iff_eq, ne_eq, Int.not_lt, Int.not_le] at *
    try (rw [cost_quo (a := a) (k := k) (by omega) (by omega) (by omega) ha])
    unfold costS
    dsimp only
    repeat' split
    all_goals first | rfl | omega
end Go.Proofs.Ytlifpafnkagofaa.F
