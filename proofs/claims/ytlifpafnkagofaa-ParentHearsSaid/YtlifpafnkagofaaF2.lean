import Derived.Test.YtlifpafnkagofaaF1
namespace Go.Proofs.Ytlifpafnkagofaa.F
open Go.RowKit Go.Sort Go.Proofs.Ytlifpafnkagofaa.B Go.Proofs.Ytlifpafnkagofaa.S
set_option linter.unusedVariables false
set_option linter.unusedSimpArgs false
def vR (r : Rk) : Value := .agg #[.int .i64 r.nd, .int .i64 r.ep, .int .i64 r.pa, .int .i64 r.he, .int .i64 r.ra, .int .i64 r.le]
theorem ret_bool {a b : Bool} (h : a = b) : Ending.returned (.bool a) = .returned (.bool b) := by rw [h]
theorem ret_rk {r : Rk} {a0 a1 a2 a3 a4 a5 : Int} (h : r = ⟨a0, a1, a2, a3, a4, a5⟩) : Ending.returned (.agg #[.int .i64 a0, .int .i64 a1, .int .i64 a2, .int .i64 a3, .int .i64 a4, .int .i64 a5]) = .returned (vR r) := by rw [h]; rfl
theorem ret_rke {r : Rk × Int} {a0 a1 a2 a3 a4 a5 e : Int} (h : r = (⟨a0, a1, a2, a3, a4, a5⟩, e)) : Ending.returned (.tuple #[.agg #[.int .i64 a0, .int .i64 a1, .int .i64 a2, .int .i64 a3, .int .i64 a4, .int .i64 a5], .int .i64 e]) = .returned (.tuple #[vR r.1, .int .i64 r.2]) := by rw [h]; rfl
theorem rlose (a0 a1 a2 a3 a4 a5 : Int) (w : World) : Calls Try.prog 44 #[.agg #[.int .i64 a0, .int .i64 a1, .int .i64 a2, .int .i64 a3, .int .i64 a4, .int .i64 a5]] w fun e w' => e = .returned (vR (loseR ⟨a0, a1, a2, a3, a4, a5⟩)) ∧ Gr w w' := by
  have HC := rcheck a0 a1 a2 a3 a4 a5
  generalize hq : checkR ⟨a0, a1, a2, a3, a4, a5⟩ = q at HC
  have HQ := Hd.mk hq
  clear hq
  go_enter Try.func44, Try.ntmps44
  go_wp2_with (go_at_call 18; (with_reducible refine (HC _).mono ?_); rintro e w' ⟨rfl, hg⟩; obtain ⟨n, os, rfl⟩ := hg.out; clear hg)
  all_goals
    refine ⟨rfl, _, by simp [results, Try.results44, go_sem]; (repeat' first | rfl | apply And.intro), ret_rk ?_, (by repeat (first | exact Gr.refl _ | with_reducible apply Gr.alloc | with_reducible apply Gr.grow | with_reducible apply Gr.drewN | with_reducible apply Gr.drew))⟩
    try simp only [Bool.not_eq_true, win_not, win_iff, Bool.not_eq_false', beq_iff_eq, Bool.not_eq_true', beq_eq_false_iff_ne, decide_eq_true_eq, decide_eq_false_iff_not, bne_iff_ne, bne_eq_false_iff_eq, ne_eq, Int.not_lt, Int.not_le] at *
    unfold loseR
    rw [HQ.out]
    dsimp only
    repeat' split
    all_goals first | rfl | omega | (congr; done)
theorem rbegin (a0 a1 a2 a3 a4 a5 b : Int) (w : World) : Calls Try.prog 56 #[.agg #[.int .i64 a0, .int .i64 a1, .int .i64 a2, .int .i64 a3, .int .i64 a4, .int .i64 a5], .int .i64 b] w fun e w' => e = .returned (vR (beginR ⟨a0, a1, a2, a3, a4, a5⟩ b)) ∧ Gr w w' := by
  go_enter Try.func56, Try.ntmps56
  go_wp2
  all_goals
    refine ⟨rfl, _, by simp [results, Try.results56, go_sem]; (repeat' first | rfl | apply And.intro), ret_rk ?_, (by repeat (first | exact Gr.refl _ | with_reducible apply Gr.alloc | with_reducible apply Gr.grow | with_reducible apply Gr.drewN | with_reducible apply Gr.drew))⟩
    try simp only [Bool.not_eq_true, win_not, win_iff, Bool.not_eq_false', beq_iff_eq, Bool.not_eq_true', beq_eq_false_iff_ne, decide_eq_true_eq, decide_eq_false_iff_not, bne_iff_ne, bne_eq_false_iff_eq, ne_eq, Int.not_lt, Int.not_le] at *
    unfold beginR
    dsimp only
    repeat' split
    all_goals first | rfl | omega
theorem radv (ep ra : Int) (w : World) : Calls Try.prog 55 #[.int .i64 ep, .int .i64 ra] w fun e w' => e = .returned (.bool (win ep 1 65535 && win ra 0 65534)) ∧ w = w' := by
  go_enter Try.func55, Try.ntmps55
  go_wp2_with (go_at_call 52; (with_reducible refine (rwithin _ _ _ _).mono ?_); rintro e w' ⟨rfl, rfl⟩)
  all_goals (go_ret; exact ⟨by simp_all, rfl⟩)
set_option maxHeartbeats 2000000 in
theorem rfeasible (a0 a1 a2 a3 a4 a5 ep ra : Int) (w : World) : Calls Try.prog 63 #[.agg #[.int .i64 a0, .int .i64 a1, .int .i64 a2, .int .i64 a3, .int .i64 a4, .int .i64 a5], .int .i64 ep, .int .i64 ra] w fun e w' => e = .returned (.bool (feasR ⟨a0, a1, a2, a3, a4, a5⟩ ep ra)) ∧ Gr w w' := by
  have HC := rcheck a0 a1 a2 a3 a4 a5
  generalize hq : checkR ⟨a0, a1, a2, a3, a4, a5⟩ = q at HC
  have HQ := Hd.mk hq
  clear hq
  have HA := radv ep ra
  generalize ha : (win ep 1 65535 && win ra 0 65534) = b at HA
  cases b
  all_goals
    simp only [Bool.and_eq_true, Bool.and_eq_false_iff, win_iff, win_not] at ha
    have HB := Hd.mk ha
    clear ha
    go_enter Try.func63, Try.ntmps63
    go_wp2_with (first | (go_at_call 18; (with_reducible refine (HC _).mono ?_); rintro e w' ⟨rfl, hg⟩; obtain ⟨n, os, rfl⟩ := hg.out; clear hg) | (go_at_call 55; (with_reducible refine (HA _).mono ?_); rintro e w' ⟨rfl, rfl⟩))
    all_goals
      go_ret
      refine ⟨ret_bool ?_, (by repeat (first | exact Gr.refl _ | with_reducible apply Gr.alloc | with_reducible apply Gr.grow | with_reducible apply Gr.drewN | with_reducible apply Gr.drew))⟩
      have hb := HB.out
      try simp only [Bool.not_eq_true, win_not, win_iff, Bool.not_eq_false', beq_iff_eq, Bool.not_eq_true', beq_eq_false_iff_ne, decide_eq_true_eq, decide_eq_false_iff_not, bne_iff_ne, bne_eq_false_iff_eq, ne_eq, Int.not_lt, Int.not_le] at *
      unfold feasR
      rw [HQ.out]
      dsimp only
      rw [Bool.eq_iff_iff]; simp only [decide_eq_true_eq, Bool.or_eq_true, Bool.and_eq_true, beq_iff_eq, bne_iff_ne, ne_eq, Bool.not_eq_true', beq_eq_false_iff_ne, decide_eq_false_iff_not, Bool.false_eq_true, true_iff, false_iff]; first | done | omega
end Go.Proofs.Ytlifpafnkagofaa.F
