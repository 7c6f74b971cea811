import Derived.Test.YtlifpafnkagofaaF18
/- The law ParentBest, walked. -/
namespace Go.Proofs.Ytlifpafnkagofaa.L
open Go.RowKit Go.Sort Go.Proofs.Ytlifpafnkagofaa.B Go.Proofs.Ytlifpafnkagofaa.S Go.Proofs.Ytlifpafnkagofaa.F
set_option linter.unusedVariables false
set_option linter.unusedSimpArgs false
set_option maxHeartbeats 4000000 in
theorem lawBest (A : Option Addr) (c : Nat) (l : List Nb) (a0 a1 a2 a3 a4 a5 : Int) (w : World) (hr : Rd w A l) (hc : l.length ≤ c) :
    Calls Try.prog 3 #[.slice A l.length c, .agg #[.int .i64 a0, .int .i64 a1, .int .i64 a2, .int .i64 a3, .int .i64 a4, .int .i64 a5]] w fun e w' => e = .returned (.bool true) ∧ Bl w w' := by
  have hA := awake_
  have hF := fun W => qfew A c l W hr.1
  have hP : ∀ W, Bl w W → _ := fun W h => pBest A c l a0 a1 a2 a3 a4 a5 W (hr.bl h) hc
  have hQ : ∀ W, Bl w W → _ := fun W h => qBest A c l a0 a1 a2 a3 a4 a5 W (hr.bl h) hc
  rw [bestQ_P] at hQ
  generalize bestP ⟨a0, a1, a2, a3, a4, a5⟩ l = b at *
  obtain ⟨b0, b1⟩ := b
  dsimp only at *
  clear hr
  cases hf : decide (l.length ≤ 40) with
  | false =>
    rw [hf] at hF
    clear hf
    go_enter Try.func3, Try.ntmps3
    go_wp2_with (first | (go_at_call 11; (with_reducible refine (hA _).mono ?_); rintro e w' ⟨rfl, hg⟩; obtain ⟨n, os, rfl⟩ := hg.out; clear hg) | (go_at_call 12; (with_reducible refine (hF _).mono ?_); rintro e w' ⟨rfl, rfl⟩))
    go_ret
    exact ⟨rfl, (by repeat (first | exact Bl.refl _ | with_reducible apply Bl.alloc | with_reducible apply Bl.grow | with_reducible apply Bl.sd | with_reducible apply Bl.drewN | with_reducible apply Bl.drew))⟩
  | true =>
    rw [hf] at hF
    clear hf
    go_enter Try.func3, Try.ntmps3
    go_wp2_with (first | (go_at_call 11; (with_reducible refine (hA _).mono ?_); rintro e w' ⟨rfl, hg⟩; obtain ⟨n, os, rfl⟩ := hg.out; clear hg) | (go_at_call 12; (with_reducible refine (hF _).mono ?_); rintro e w' ⟨rfl, rfl⟩) | (go_at_call 13; (with_reducible refine (hP _ (by repeat (first | exact Bl.refl _ | with_reducible apply Bl.alloc | with_reducible apply Bl.grow | with_reducible apply Bl.sd | with_reducible apply Bl.drewN | with_reducible apply Bl.drew))).mono ?_); rintro e w' ⟨rfl, hg⟩; obtain ⟨n, os, rfl⟩ := hg.out; clear hg) | (go_at_call 14; (with_reducible refine (hQ _ (by repeat (first | exact Bl.refl _ | with_reducible apply Bl.alloc | with_reducible apply Bl.grow | with_reducible apply Bl.sd | with_reducible apply Bl.drewN | with_reducible apply Bl.drew))).mono ?_); rintro e w' ⟨rfl, hg⟩; obtain ⟨n, os, rfl⟩ := hg.out; clear hg))
    all_goals
      go_ret
      exact ⟨ret_bool (by simp), (by repeat (first | exact Bl.refl _ | with_reducible apply Bl.alloc | with_reducible apply Bl.grow | with_reducible apply Bl.sd | with_reducible apply Bl.drewN | with_reducible apply Bl.drew))⟩
end Go.Proofs.Ytlifpafnkagofaa.L
