import Derived.Test.YtcknakbjiklklaaF1
/- celltable.form. -/
namespace Go.Proofs.Ytcknakbjiklklaa.F
open Go.RowKit Go.Sort Go.Proofs.Ytcknakbjiklklaa.B Go.Proofs.Ytcknakbjiklklaa.S
set_option linter.unusedVariables false
set_option linter.unusedSimpArgs false
set_option maxHeartbeats 4000000 in
theorem cform (x0 x1 x2 x4 x5 self len : Int) (x3 : Bool) (w : World) :
    Calls Try.prog 44 #[.agg #[.int .i64 x0, .int .i64 x1, .int .i64 x2, .bool x3, .int .i64 x4, .int .i64 x5], .int .i64 self, .int .i64 len] w fun e w' => e = .returned (.int .i64 (formS ⟨x0, x1, x2, x3, x4, x5⟩ self len)) ∧ Gr w w' := by
  have HN := cnode x4
  generalize hq : win x4 0 31 = q at HN
  cases q
  all_goals
    simp only [win_iff, win_not] at hq
    have HQ := Hd.mk hq
    clear hq
    cases x3
    all_goals
      go_enter Try.func44, Try.ntmps44
      go_wp2_with (go_at_call 43; (with_reducible refine (HN _).mono ?_); rintro e w' ⟨rfl, rfl⟩)
      all_goals
        go_ret
        refine ⟨ret_i ?_, (by repeat (first | exact Gr.refl _ | with_reducible apply Gr.alloc | with_reducible apply Gr.grow | with_reducible apply Gr.drewN | with_reducible apply Gr.drew))⟩
        have hq := HQ.out
        try simp only [Bool.not_eq_true, win_not, win_iff, Bool.not_eq_false', beq_iff_eq, Bool.not_eq_true', beq_eq_false_iff_ne, decide_eq_true_eq, decide_eq_false_iff_not, bne_iff_ne, bne_eq_false_iff_eq, ne_eq, Int.not_lt, Int.not_le] at *
        unfold formS
        dsimp only
        repeat' split
        all_goals first | rfl | omega | (simp_all; done) | (simp_all; omega)
end Go.Proofs.Ytcknakbjiklklaa.F
