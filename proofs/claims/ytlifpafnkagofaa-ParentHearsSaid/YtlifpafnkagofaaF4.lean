import Derived.Test.YtlifpafnkagofaaF2
namespace Go.Proofs.Ytlifpafnkagofaa.F
open Go.RowKit Go.Sort Go.Proofs.Ytlifpafnkagofaa.B Go.Proofs.Ytlifpafnkagofaa.S
set_option linter.unusedVariables false
set_option linter.unusedSimpArgs false
theorem xnode (n : Int) (w : World) : Calls Try.prog 54 #[.int .i64 n] w fun e w' => e = .returned (.bool (win n 0 31)) ∧ w = w' := by
  unfold win
  by_cases c : 0 ≤ n
  all_goals
    go_enter Try.func54, Try.ntmps54
    go_wp2
    go_ret
    refine ⟨ret_bool ?_, rfl⟩
    rw [Bool.eq_iff_iff]; simp only [decide_eq_true_eq, Bool.or_eq_true, Bool.and_eq_true, beq_iff_eq, bne_iff_ne, ne_eq, Bool.not_eq_true', beq_eq_false_iff_ne, decide_eq_false_iff_not, Bool.false_eq_true, true_iff, false_iff]; first | done | omega
set_option maxHeartbeats 4000000 in
theorem xcheck (a0 a1 a2 a3 a4 a5 : Int) (w : World) : Calls Try.prog 19 #[.agg #[.int .i64 a0, .int .i64 a1, .int .i64 a2, .int .i64 a3, .int .i64 a4, .int .i64 a5]] w fun e w' => e = .returned (.int .i64 (checkR ⟨a0, a1, a2, a3, a4, a5⟩)) ∧ Gr w w' := by
  go_enter Try.func19, Try.ntmps19
  go_wp2_with (go_at_call 54; (with_reducible refine (xnode _ _).mono ?_); rintro e w' ⟨rfl, rfl⟩)
  all_goals try (exfalso; simp_all; done)
  all_goals
    go_ret
    refine ⟨ret_int ?_, (by repeat (first | exact Gr.refl _ | with_reducible apply Gr.alloc | with_reducible apply Gr.grow | with_reducible apply Gr.drewN | with_reducible apply Gr.drew))⟩
    try simp only [Bool.not_eq_true, win_not, win_iff, Bool.not_eq_false', beq_iff_eq, Bool.not_eq_true', beq_eq_false_iff_ne, decide_eq_true_eq, decide_eq_false_iff_not, bne_iff_ne, bne_eq_false_iff_eq, ne_eq, Int.not_lt, Int.not_le] at *
    unfold checkR
    dsimp only
    repeat' split
    all_goals first | rfl | omega
set_option maxHeartbeats 2000000 in
theorem xranges (ep ra co : Int) (w : World) : Calls Try.prog 66 #[.int .i64 ep, .int .i64 ra, .int .i64 co] w fun e w' => e = .returned (.bool (decide (1 ≤ ep ∧ ep ≤ 65535 ∧ 0 ≤ ra ∧ ra ≤ 65534 ∧ 1 ≤ co ∧ co ≤ 1023))) ∧ w = w' := by
  go_enter Try.func66, Try.ntmps66
  go_wp2
  all_goals
    go_ret
    refine ⟨ret_bool ?_, rfl⟩
    try simp only [Bool.not_eq_true, win_not, win_iff, Bool.not_eq_false', beq_iff_eq, Bool.not_eq_true', beq_eq_false_iff_ne, decide_eq_true_eq, decide_eq_false_iff_not, bne_iff_ne, bne_eq_false_iff_eq, ne_eq, Int.not_lt, Int.not_le] at *
    rw [Bool.eq_iff_iff]; simp only [decide_eq_true_eq, Bool.or_eq_true, Bool.and_eq_true, beq_iff_eq, bne_iff_ne, ne_eq, Bool.not_eq_true', beq_eq_false_iff_ne, decide_eq_false_iff_not, Bool.false_eq_true, true_iff, false_iff]; first | done | omega
set_option maxHeartbeats 2000000 in
theorem xfeasible (a0 a1 a2 a3 a4 a5 ep ra : Int) (w : World) : Calls Try.prog 40 #[.agg #[.int .i64 a0, .int .i64 a1, .int .i64 a2, .int .i64 a3, .int .i64 a4, .int .i64 a5], .int .i64 ep, .int .i64 ra] w fun e w' => e = .returned (.bool (feasR ⟨a0, a1, a2, a3, a4, a5⟩ ep ra)) ∧ Gr w w' := by
  have HC := xcheck a0 a1 a2 a3 a4 a5
  generalize hq : checkR ⟨a0, a1, a2, a3, a4, a5⟩ = q at HC
  have HQ := Hd.mk hq
  clear hq
  have HA := xranges ep ra 1
  generalize ha : decide (1 ≤ ep ∧ ep ≤ 65535 ∧ 0 ≤ ra ∧ ra ≤ 65534 ∧ (1 : Int) ≤ 1 ∧ (1 : Int) ≤ 1023) = b at HA
  cases b
  all_goals
    simp only [decide_eq_true_eq, decide_eq_false_iff_not] at ha
    have HB := Hd.mk ha
    clear ha
    go_enter Try.func40, Try.ntmps40
    go_wp2_with (first | (go_at_call 19; (with_reducible refine (HC _).mono ?_); rintro e w' ⟨rfl, hg⟩; obtain ⟨n, os, rfl⟩ := hg.out; clear hg) | (go_at_call 66; (with_reducible refine (HA _).mono ?_); rintro e w' ⟨rfl, rfl⟩))
    all_goals try (exfalso; simp_all; done)
    all_goals
      go_ret
      refine ⟨ret_bool ?_, (by repeat (first | exact Gr.refl _ | with_reducible apply Gr.alloc | with_reducible apply Gr.grow | with_reducible apply Gr.drewN | with_reducible apply Gr.drew))⟩
      have hb := HB.out
      try simp only [Bool.not_eq_true, win_not, win_iff, Bool.not_eq_false', beq_iff_eq, Bool.not_eq_true', beq_eq_false_iff_ne, decide_eq_true_eq, decide_eq_false_iff_not, bne_iff_ne, bne_eq_false_iff_eq, ne_eq, Int.not_lt, Int.not_le] at *
      unfold feasR
      rw [HQ.out]
      dsimp only
      rw [Bool.eq_iff_iff]; simp only [decide_eq_true_eq, Bool.or_eq_true, Bool.and_eq_true, beq_iff_eq, bne_iff_ne, ne_eq, Bool.not_eq_true', beq_eq_false_iff_ne, decide_eq_false_iff_not, Bool.false_eq_true, true_iff, false_iff]; first | done | omega
theorem xlose (a0 a1 a2 a3 a4 a5 : Int) (w : World) : Calls Try.prog 48 #[.agg #[.int .i64 a0, .int .i64 a1, .int .i64 a2, .int .i64 a3, .int .i64 a4, .int .i64 a5]] w fun e w' => e = .returned (vR (loseR ⟨a0, a1, a2, a3, a4, a5⟩)) ∧ Gr w w' := by
  have HC := xcheck a0 a1 a2 a3 a4 a5
  generalize hq : checkR ⟨a0, a1, a2, a3, a4, a5⟩ = q at HC
  have HQ := Hd.mk hq
  clear hq
  go_enter Try.func48, Try.ntmps48
  go_wp2_with (go_at_call 19; (with_reducible refine (HC _).mono ?_); rintro e w' ⟨rfl, hg⟩; obtain ⟨n, os, rfl⟩ := hg.out; clear hg)
  all_goals
    refine ⟨rfl, _, by simp [results, Try.results48, go_sem]; (repeat' first | rfl | apply And.intro), ret_rk ?_, (by repeat (first | exact Gr.refl _ | with_reducible apply Gr.alloc | with_reducible apply Gr.grow | with_reducible apply Gr.drewN | with_reducible apply Gr.drew))⟩
    try simp only [Bool.not_eq_true, win_not, win_iff, Bool.not_eq_false', beq_iff_eq, Bool.not_eq_true', beq_eq_false_iff_ne, decide_eq_true_eq, decide_eq_false_iff_not, bne_iff_ne, bne_eq_false_iff_eq, ne_eq, Int.not_lt, Int.not_le] at *
    unfold loseR
    rw [HQ.out]
    dsimp only
    repeat' split
    all_goals first | rfl | omega | (congr; done)
end Go.Proofs.Ytlifpafnkagofaa.F
