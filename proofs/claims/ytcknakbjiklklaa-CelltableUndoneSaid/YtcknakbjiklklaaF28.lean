import Derived.Test.YtcknakbjiklklaaF27
import Derived.Test.YtcknakbjiklklaaF4
/- hopmeshref16: formed, Same. -/
namespace Go.Proofs.Ytcknakbjiklklaa.F
open Go.RowKit Go.Sort Go.Proofs.Ytcknakbjiklklaa.B Go.Proofs.Ytcknakbjiklklaa.S
set_option linter.unusedVariables false
set_option linter.unusedSimpArgs false
set_option maxHeartbeats 4000000 in
theorem qsame (a0 a1 b0 b1 : Int) (A B : Option Addr) (c d : Nat) (a b : List TC) (w : World) (ha : Rd w A a) (hb : Rd w B b) (hc : a.length ≤ c) (hd : b.length ≤ d) :
    Calls Try.prog 20 #[.agg #[.int .i64 a0, .int .i64 a1, .slice A a.length c], .agg #[.int .i64 b0, .int .i64 b1, .slice B b.length d]] w fun e w' => e = .returned (.bool (decide (a0 = b0 ∧ a1 = b1 ∧ a = b))) ∧ Gr w w' := by
  have hS : ∀ W, Gr w W → _ := fun W h => xsamec A B c d a b W (ha.gr h) (hb.gr h) hc hd
  generalize hq : decide (a = b) = q at hS
  have HQ := Hd.mk hq
  clear ha hb hq
  cases h1 : (a0 == b0) with
  | false =>
    have hr : decide (a0 = b0 ∧ a1 = b1 ∧ a = b) = false := decide_eq_false (fun h => by rw [h.1] at h1; simp at h1)
    rw [hr]
    clear hr
    go_enter Try.func20, Try.ntmps20
    go_wp2
    go_ret
    exact ⟨rfl, (by repeat (first | exact Gr.refl _ | with_reducible apply Gr.alloc | with_reducible apply Gr.grow | with_reducible apply Gr.drewN | with_reducible apply Gr.drew))⟩
  | true =>
    cases h2 : (a1 == b1) with
    | false =>
      have hr : decide (a0 = b0 ∧ a1 = b1 ∧ a = b) = false := decide_eq_false (fun h => by rw [h.2.1] at h2; simp at h2)
      rw [hr]
      clear hr
      go_enter Try.func20, Try.ntmps20
      go_wp2
      go_ret
      exact ⟨rfl, (by repeat (first | exact Gr.refl _ | with_reducible apply Gr.alloc | with_reducible apply Gr.grow | with_reducible apply Gr.drewN | with_reducible apply Gr.drew))⟩
    | true =>
      have hr : decide (a0 = b0 ∧ a1 = b1 ∧ a = b) = q := by
        rw [← HQ.out]
        have e1 := beq_iff_eq.1 h1
        have e2 := beq_iff_eq.1 h2
        simp [e1, e2]
      rw [hr]
      clear hr
      go_enter Try.func20, Try.ntmps20
      go_wp2_with (first | (go_at_call 27; (with_reducible refine (hS _ (by repeat (first | exact Gr.refl _ | with_reducible apply Gr.alloc | with_reducible apply Gr.grow | with_reducible apply Gr.drewN | with_reducible apply Gr.drew))).mono ?_); rintro e w' ⟨rfl, hg⟩; obtain ⟨n, os, rfl⟩ := hg.out; clear hg))
      go_ret
      exact ⟨rfl, (by repeat (first | exact Gr.refl _ | with_reducible apply Gr.alloc | with_reducible apply Gr.grow | with_reducible apply Gr.drewN | with_reducible apply Gr.drew))⟩
end Go.Proofs.Ytcknakbjiklklaa.F
