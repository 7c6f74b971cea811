import Derived.Test.YtcknakbjiklklaaF2
/- hopmeshref16: Few, cell, less. -/
namespace Go.Proofs.Ytcknakbjiklklaa.F
open Go.RowKit Go.Sort Go.Proofs.Ytcknakbjiklklaa.B Go.Proofs.Ytcknakbjiklklaa.S
set_option linter.unusedVariables false
set_option linter.unusedSimpArgs false
def fewC (n : Int) : Bool := decide (n ≤ 40 ∨ (512 < n ∧ n ≤ 516))
def fewT (len : Int) (n : Nat) : Bool := fewC n && decide (len ≤ 64 ∨ 512 < len)
theorem qfewc (n : Int) (w : World) : Calls Try.prog 42 #[.int .i64 n] w fun e w' => e = .returned (.bool (fewC n)) ∧ w = w' := by
  unfold fewC
  by_cases h : n ≤ 40
  · go_enter Try.func42, Try.ntmps42
    go_wp2
    go_ret
    exact ⟨ret_bool (by simp [h]), rfl⟩
  · by_cases h2 : 512 < n
    all_goals
      go_enter Try.func42, Try.ntmps42
      go_wp2
      go_ret
      exact ⟨ret_bool (by first | (simp; done) | (simp [h, h2]; done) | (rw [Bool.eq_iff_iff]; simp; omega)), rfl⟩
theorem qfew (n len : Int) (A : Option Addr) (c : Nat) (l : List TC) (w : World) (hl : l.length ≤ 9223372036854775807) : Calls Try.prog 12 #[.agg #[.int .i64 n, .int .i64 len, .slice A l.length c]] w fun e w' => e = .returned (.bool (fewT len l.length)) ∧ Gr w w' := by
  unfold fewT
  have hF := qfewc (l.length : Int)
  generalize fewC (l.length : Int) = q at *
  cases q with
  | false =>
    go_enter Try.func12, Try.ntmps12
    go_wp2_with (first | (go_at_call 42; (with_reducible refine (hF _).mono ?_); rintro e w' ⟨rfl, rfl⟩))
    go_ret
    exact ⟨ret_bool (by simp), (by repeat (first | exact Gr.refl _ | with_reducible apply Gr.alloc | with_reducible apply Gr.grow | with_reducible apply Gr.drewN | with_reducible apply Gr.drew))⟩
  | true =>
    by_cases h : len ≤ 64
    all_goals
      go_enter Try.func12, Try.ntmps12
      go_wp2_with (first | (go_at_call 42; (with_reducible refine (hF _).mono ?_); rintro e w' ⟨rfl, rfl⟩))
      go_ret
      exact ⟨ret_bool (by simp [h]), (by repeat (first | exact Gr.refl _ | with_reducible apply Gr.alloc | with_reducible apply Gr.grow | with_reducible apply Gr.drewN | with_reducible apply Gr.drew))⟩
theorem qless (a0 a1 a2 a4 a5 b0 b1 b2 b4 b5 : Int) (a3 b3 : Bool) (w : World) :
    Calls Try.prog 47 #[.agg #[.int .i64 a0, .int .i64 a1, .int .i64 a2, .bool a3, .int .i64 a4, .int .i64 a5], .agg #[.int .i64 b0, .int .i64 b1, .int .i64 b2, .bool b3, .int .i64 b4, .int .i64 b5]] w
      fun e w' => e = .returned (.bool (decide (lessT ⟨a0, a1, a2, a3, a4, a5⟩ ⟨b0, b1, b2, b3, b4, b5⟩))) ∧ Gr w w' := by
  unfold lessT
  dsimp only
  by_cases h : a0 < b0
  · go_enter Try.func47, Try.ntmps47
    go_wp2
    go_ret
    exact ⟨ret_bool (by simp [h]), (by repeat (first | exact Gr.refl _ | with_reducible apply Gr.alloc | with_reducible apply Gr.grow | with_reducible apply Gr.drewN | with_reducible apply Gr.drew))⟩
  · by_cases h2 : a0 = b0
    · have h2b : (a0 == b0) = true := by simp [h2]
      have H2 := Hd.mk h2
      clear h2
      go_enter Try.func47, Try.ntmps47
      go_wp2
      go_ret
      exact ⟨ret_bool (by simp [H2.out]), (by repeat (first | exact Gr.refl _ | with_reducible apply Gr.alloc | with_reducible apply Gr.grow | with_reducible apply Gr.drewN | with_reducible apply Gr.drew))⟩
    · have h2b : (a0 == b0) = false := by simp [h2]
      have H2 := Hd.mk h2
      clear h2
      go_enter Try.func47, Try.ntmps47
      go_wp2
      go_ret
      exact ⟨ret_bool (by simp [h, H2.out]), (by repeat (first | exact Gr.refl _ | with_reducible apply Gr.alloc | with_reducible apply Gr.grow | with_reducible apply Gr.drewN | with_reducible apply Gr.drew))⟩
end Go.Proofs.Ytcknakbjiklklaa.F
