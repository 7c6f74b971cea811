import Derived.Test.YtcknakbjiklklaaF19
/- hopmeshref16.cell. -/
namespace Go.Proofs.Ytcknakbjiklklaa.F
open Go.RowKit Go.Sort Go.Proofs.Ytcknakbjiklklaa.B Go.Proofs.Ytcknakbjiklklaa.S
set_option linter.unusedVariables false
set_option linter.unusedSimpArgs false
set_option maxHeartbeats 8000000 in
theorem qcell (n len : Int) (v : Value) (x0 x1 x2 x4 x5 : Int) (x3 : Bool) (hv : ∃ A k c, v = .slice A k c) (w : World) :
    Calls Try.prog 46 #[.agg #[.int .i64 n, .int .i64 len, v], .agg #[.int .i64 x0, .int .i64 x1, .int .i64 x2, .bool x3, .int .i64 x4, .int .i64 x5]] w fun e w' => e = .returned (.int .i64 (formS ⟨x0, x1, x2, x3, x4, x5⟩ n len)) ∧ Gr w w' := by
  obtain ⟨A, k, c, rfl⟩ := hv
  by_cases k3 : x2 = 3
  · subst k3
    cases x3
    all_goals
      go_enter Try.func46, Try.ntmps46
      go_wp2
      all_goals
        go_ret
        refine ⟨ret_i ?_, (by repeat (first | exact Gr.refl _ | with_reducible apply Gr.alloc | with_reducible apply Gr.grow | with_reducible apply Gr.drewN | with_reducible apply Gr.drew))⟩
        try simp only [Bool.not_eq_true, win_not, win_iff, Bool.not_eq_false', beq_iff_eq, Bool.not_eq_true', beq_eq_false_iff_ne, decide_eq_true_eq, decide_eq_false_iff_not, bne_iff_ne, bne_eq_false_iff_eq, ne_eq, Int.not_lt, Int.not_le] at *
        unfold formS
        dsimp only
        repeat' split
        all_goals first | rfl | omega | (simp_all; done) | (simp_all; omega)
  · by_cases k1 : x2 = 1
    · subst k1
      cases hpe : (x4 == n)
      all_goals
        go_enter Try.func46, Try.ntmps46
        go_wp2
        all_goals
          go_ret
          refine ⟨ret_i ?_, (by repeat (first | exact Gr.refl _ | with_reducible apply Gr.alloc | with_reducible apply Gr.grow | with_reducible apply Gr.drewN | with_reducible apply Gr.drew))⟩
          try simp only [Bool.not_eq_true, win_not, win_iff, Bool.not_eq_false', beq_iff_eq, Bool.not_eq_true', beq_eq_false_iff_ne, decide_eq_true_eq, decide_eq_false_iff_not, bne_iff_ne, bne_eq_false_iff_eq, ne_eq, Int.not_lt, Int.not_le] at *
          unfold formS
          dsimp only
          repeat' split
          all_goals first | rfl | omega | (simp_all; done) | (simp_all; omega)
    · by_cases k2 : x2 = 2
      · subst k2
        cases hpe : (x4 == n)
        all_goals
          go_enter Try.func46, Try.ntmps46
          go_wp2
          all_goals
            go_ret
            refine ⟨ret_i ?_, (by repeat (first | exact Gr.refl _ | with_reducible apply Gr.alloc | with_reducible apply Gr.grow | with_reducible apply Gr.drewN | with_reducible apply Gr.drew))⟩
            try simp only [Bool.not_eq_true, win_not, win_iff, Bool.not_eq_false', beq_iff_eq, Bool.not_eq_true', beq_eq_false_iff_ne, decide_eq_true_eq, decide_eq_false_iff_not, bne_iff_ne, bne_eq_false_iff_eq, ne_eq, Int.not_lt, Int.not_le] at *
            unfold formS
            dsimp only
            repeat' split
            all_goals first | rfl | omega | (simp_all; done) | (simp_all; omega)
      · have hs : formS ⟨x0, x1, x2, x3, x4, x5⟩ n len = 1 := by unfold formS; rw [if_pos ⟨k3, k1, k2⟩]
        rw [hs]
        have hq : x2 < 1 ∨ ¬ x2 < 1 ∧ 3 < x2 := by omega
        clear hs k1 k2 k3
        rcases hq with h | ⟨h, h'⟩
        all_goals
          go_enter Try.func46, Try.ntmps46
          go_wp2
          go_ret
          exact ⟨rfl, (by repeat (first | exact Gr.refl _ | with_reducible apply Gr.alloc | with_reducible apply Gr.grow | with_reducible apply Gr.drewN | with_reducible apply Gr.drew))⟩
end Go.Proofs.Ytcknakbjiklklaa.F
