import Derived.Test.YtcknakbjiklklaaB2
import Derived.Test.YtcknakbjiklklaaS0
namespace Go.Proofs.Ytcknakbjiklklaa.F
open Go.RowKit Go.Sort Go.Proofs.Ytcknakbjiklklaa.B Go.Proofs.Ytcknakbjiklklaa.S
set_option linter.unusedVariables false
set_option linter.unusedSimpArgs false
theorem ret_i {a b : Int} (h : a = b) : Ending.returned (.int .i64 a) = .returned (.int .i64 b) := by rw [h]
theorem ret_bool {a b : Bool} (h : a = b) : Ending.returned (.bool a) = .returned (.bool b) := by rw [h]
/-- A cell of a table as a value. -/
def vT (x : TC) : Value := .agg #[.int .i64 x.sl, .int .i64 x.off, .int .i64 x.ki, .bool x.se, .int .i64 x.pe, .int .i64 x.fl]
theorem cnode (n : Int) (w : World) : Calls Try.prog 43 #[.int .i64 n] w fun e w' => e = .returned (.bool (win n 0 31)) ∧ w = w' := by
  unfold win
  by_cases c : 0 ≤ n
  all_goals
    go_enter Try.func43, Try.ntmps43
    go_wp2
    go_ret
    exact ⟨ret_bool (by first | (rw [Bool.eq_iff_iff]; simp; done) | (rw [Bool.eq_iff_iff]; simp; omega) | (simp; omega)), rfl⟩
theorem isnan (a : Int) (w : World) : Calls Try.prog 76 #[.int .i64 a] w fun e w' => e = .returned (.bool false) ∧ w = w' := by
  go_enter Try.func76, Try.ntmps76
  go_wp2
  go_ret
  exact ⟨by simp, rfl⟩
theorem compare_ (a b : Int) (w : World) : Calls Try.prog 60 #[.int .i64 a, .int .i64 b] w fun e w' => e = .returned (.int .i64 (cmpS a b)) ∧ w = w' := by
  go_enter Try.func60, Try.ntmps60
  go_wp2_with (go_at_call 76; (with_reducible refine (isnan _ _).mono ?_); rintro e w' ⟨rfl, rfl⟩)
  all_goals
    go_ret
    refine ⟨ret_i ?_, rfl⟩
    unfold cmpS
    repeat' split
    all_goals first | rfl | omega
set_option maxHeartbeats 1000000 in
theorem or2 (b : Nat) (x y : Int) (w : World) (c0 : w.cell? ⟨b, 0, none⟩ = some (.int .i64 x)) (c1 : w.cell? ⟨b, 1, none⟩ = some (.int .i64 y)) :
    Calls Try.prog 72 #[.slice (some ⟨b, 0, none⟩) 2 2] w fun e w' => e = .returned (.int .i64 (orS x y)) ∧ w = w' := by
  go_enter Try.func72, Try.ntmps72
  go_wp2
  refine wp_loop_rounds 4 ?_
  rw [rounds_succ]
  go_wp2
  · go_ret
    exact ⟨ret_i (by unfold orS; simp_all), rfl⟩
  · rw [rounds_succ]
    go_wp2
    · go_ret
      exact ⟨ret_i (by unfold orS; simp_all), rfl⟩
    · rw [rounds_succ]
      go_wp2
      go_ret
      exact ⟨ret_i (by unfold orS; simp_all), rfl⟩
set_option maxHeartbeats 4000000 in
set_option maxRecDepth 100000 in
theorem ccompare (a0 a1 a2 a4 a5 b0 b1 b2 b4 b5 : Int) (a3 b3 : Bool) (w : World) :
    Calls Try.prog 45 #[.agg #[.int .i64 a0, .int .i64 a1, .int .i64 a2, .bool a3, .int .i64 a4, .int .i64 a5], .agg #[.int .i64 b0, .int .i64 b1, .int .i64 b2, .bool b3, .int .i64 b4, .int .i64 b5]] w
      fun e w' => e = .returned (.int .i64 (cmpT ⟨a0, a1, a2, a3, a4, a5⟩ ⟨b0, b1, b2, b3, b4, b5⟩)) ∧ Gr w w' := by
  have hm := mixed
  go_enter Try.func45, Try.ntmps45
  go_wp2
  go_region_held3 (fun w' => w'.cell? ⟨w.heap.size, 0, none⟩ = some (.int .i64 a0) ∧ w'.cell? ⟨w.heap.size, 2, none⟩ = some (.int .i64 a2) ∧
      w'.cell? ⟨w.heap.size + 1, 0, none⟩ = some (.int .i64 b0) ∧ w'.cell? ⟨w.heap.size + 1, 2, none⟩ = some (.int .i64 b2))
    (first | go_keep | (go_simp; done))
    (first | (go_at_call 60; (with_reducible refine (compare_ _ _ _).mono ?_); rintro e w' ⟨rfl, rfl⟩) | (go_at_call 72; (refine (or2 _ (cmpS a0 b0) (cmpS a2 b2) _ ?c0 ?c1).mono ?_); (case c0 => go_simp); (case c1 => go_simp); rintro e w' ⟨rfl, rfl⟩))
  all_goals
    go_wp2
    go_ret
    exact ⟨rfl, (by repeat (first | exact Gr.refl _ | with_reducible apply Gr.alloc | with_reducible apply Gr.grow | with_reducible apply Gr.drewN | with_reducible apply Gr.drew))⟩
end Go.Proofs.Ytcknakbjiklklaa.F
