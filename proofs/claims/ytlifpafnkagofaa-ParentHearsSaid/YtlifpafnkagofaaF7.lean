import Derived.Test.YtlifpafnkagofaaF6
import Derived.Test.YtlifpafnkagofaaB1
import Derived.Test.YtlifpafnkagofaaS4
namespace Go.Proofs.Ytlifpafnkagofaa.F
open Go.RowKit Go.Sort Go.Proofs.Ytlifpafnkagofaa.B Go.Proofs.Ytlifpafnkagofaa.S
set_option linter.unusedVariables false
set_option linter.unusedSimpArgs false


theorem lpath (a0 a1 a2 a3 a4 a5 a6 a7 : Int) (h1 : 0 ≤ a2) (h2 : a2 ≤ 65535) (h3 : 0 ≤ a7) (h4 : a7 ≤ 1023) (w : World) :
    Calls Try.prog 45 #[.agg #[.int .i64 a0, .int .i64 a1, .int .i64 a2, .int .i64 a3, .int .i64 a4, .int .i64 a5, .int .i64 a6, .int .i64 a7]] w fun e w' => e = .returned (.int .i64 (a2 + a7)) ∧ Gr w w' := by
  go_enter Try.func45, Try.ntmps45
  go_wp2
  go_ret
  exact ⟨rfl, (by repeat (first | exact Gr.refl _ | with_reducible apply Gr.alloc | with_reducible apply Gr.grow | with_reducible apply Gr.drewN | with_reducible apply Gr.drew))⟩
theorem isnan (a : Int) (w : World) : Calls Try.prog 73 #[.int .i64 a] w fun e w' => e = .returned (.bool false) ∧ w = w' := by
  go_enter Try.func73, Try.ntmps73
  go_wp2
  go_ret
  exact ⟨by simp, rfl⟩
theorem compare_ (a b : Int) (w : World) : Calls Try.prog 69 #[.int .i64 a, .int .i64 b] w fun e w' => e = .returned (.int .i64 (cmpS a b)) ∧ w = w' := by
  go_enter Try.func69, Try.ntmps69
  go_wp2_with (go_at_call 73; (with_reducible refine (isnan _ _).mono ?_); rintro e w' ⟨rfl, rfl⟩)
  all_goals
    go_ret
    refine ⟨ret_int ?_, rfl⟩
    unfold cmpS
    repeat' split
    all_goals first | rfl | omega
set_option maxHeartbeats 1000000 in
theorem or3 (b : Nat) (x y z : Int) (w : World) (c0 : w.cell? ⟨b, 0, none⟩ = some (.int .i64 x)) (c1 : w.cell? ⟨b, 1, none⟩ = some (.int .i64 y)) (c2 : w.cell? ⟨b, 2, none⟩ = some (.int .i64 z)) :
    Calls Try.prog 72 #[.slice (some ⟨b, 0, none⟩) 3 3] w fun e w' => e = .returned (.int .i64 (orS x y z)) ∧ w = w' := by
  go_enter Try.func72, Try.ntmps72
  go_wp2
  refine wp_loop_rounds 4 ?_
  rw [rounds_succ]
  go_wp2
  · go_ret
    exact ⟨ret_int (by unfold orS; simp_all), rfl⟩
  · rw [rounds_succ]
    go_wp2
    · go_ret
      exact ⟨ret_int (by unfold orS; simp_all), rfl⟩
    · rw [rounds_succ]
      go_wp2
      · go_ret
        exact ⟨ret_int (by unfold orS; simp_all), rfl⟩
      · rw [rounds_succ]
        go_wp2
        go_ret
        exact ⟨ret_int (by unfold orS; simp_all), rfl⟩

set_option maxHeartbeats 1000000 in
theorem xpath (a0 a1 a2 a3 a4 a5 : Int) (h1 : 0 ≤ a2) (h2 : a2 ≤ 65535) (h4 : a4 ≤ 2147483648) (w : World) :
    Calls Try.prog 41 #[.agg #[.int .i64 a0, .int .i64 a1, .int .i64 a2, .int .i64 a3, .int .i64 a4, .int .i64 a5]] w fun e w' => e = .returned (.int .i64 (a2 + costS ⟨a4, a5⟩)) ∧ Gr w w' := by
  have hb := costS_bd ⟨a4, a5⟩
  have HC := xcost a4 a5 h4
  generalize costS ⟨a4, a5⟩ = c at hb HC ⊢
  obtain ⟨hb1, hb2⟩ := hb
  have hw : IntKind.i64.wrap (a2 + c) = a2 + c := IntWalk.i64_in _ (by omega)
  go_enter Try.func41, Try.ntmps41
  go_wp2
  have hm := mixed
  go_quiet_grown (first | (go_at_call 37; exact quiet_grown rfl (HC _)))
  go_wp2
  go_ret
  exact ⟨rfl, (by repeat (first | exact Gr.refl _ | with_reducible apply Gr.alloc | with_reducible apply Gr.grow | with_reducible apply Gr.drewN | with_reducible apply Gr.drew))⟩
end Go.Proofs.Ytlifpafnkagofaa.F
