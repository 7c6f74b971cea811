import Derived.Test.YtlifpafnkagofaaL1
import Derived.Test.YtlifpafnkagofaaS10
/- The law ParentSteady, walked. -/
namespace Go.Proofs.Ytlifpafnkagofaa.L
open Go.RowKit Go.Sort Go.Proofs.Ytlifpafnkagofaa.B Go.Proofs.Ytlifpafnkagofaa.S Go.Proofs.Ytlifpafnkagofaa.F
set_option linter.unusedVariables false
set_option linter.unusedSimpArgs false
set_option maxHeartbeats 4000000 in
theorem lawSteady (A : Option Addr) (c : Nat) (l : List Nb) (a0 a1 a2 a3 a4 a5 mg : Int) (w : World) (hr : Rd w A l) (hc : l.length ≤ c) (hm0 : 0 ≤ mg) (hm1 : mg ≤ 65535) :
    Calls Try.prog 5 #[.slice A l.length c, .agg #[.int .i64 a0, .int .i64 a1, .int .i64 a2, .int .i64 a3, .int .i64 a4, .int .i64 a5], .int .u16 mg] w fun e w' => e = .returned (.bool true) ∧ Bl w w' := by
  have hA := awake_
  have hF := fun W => qfew A c l W hr.1
  have hC : ∀ W, Bl w W → _ := fun W h => pcheck A c l W (hr.bl h) hc
  have hQ := rcheck a0 a1 a2 a3 a4 a5
  have hwr : IntKind.i64.wrap mg = mg := IntWalk.i64_in _ (by omega)
  by_cases hgo : decide (l.length ≤ 40) = true ∧ checkL l = 0 ∧ checkR ⟨a0, a1, a2, a3, a4, a5⟩ = 0
  case neg =>
    clear hr
    generalize decide (l.length ≤ 40) = q0 at *
    generalize checkL l = q1 at *
    generalize checkR ⟨a0, a1, a2, a3, a4, a5⟩ = q2 at *
    have HG := Hd.mk hgo
    clear hgo
    cases q0 with
    | false =>
      go_enter Try.func5, Try.ntmps5
      go_wp2_with (first | (go_at_call 11; (with_reducible refine (hA _).mono ?_); rintro e w' ⟨rfl, hg⟩; obtain ⟨n, os, rfl⟩ := hg.out; clear hg) | (go_at_call 12; (with_reducible refine (hF _).mono ?_); rintro e w' ⟨rfl, rfl⟩) | (go_at_call 17; (with_reducible refine (hC _ (by repeat (first | exact Bl.refl _ | with_reducible apply Bl.alloc | with_reducible apply Bl.grow | with_reducible apply Bl.sd | with_reducible apply Bl.drewN | with_reducible apply Bl.drew))).mono ?_); rintro e w' ⟨rfl, hg⟩; obtain ⟨n, os, rfl⟩ := hg.out; clear hg) | (go_at_call 18; (with_reducible refine (hQ _).mono ?_); rintro e w' ⟨rfl, hg⟩; obtain ⟨n, os, rfl⟩ := hg.out; clear hg))
      all_goals
        go_ret
        exact ⟨rfl, (by repeat (first | exact Bl.refl _ | with_reducible apply Bl.alloc | with_reducible apply Bl.grow | with_reducible apply Bl.sd | with_reducible apply Bl.drewN | with_reducible apply Bl.drew))⟩
    | true =>
      by_cases h1 : q1 = 0
      · have h2 : q2 ≠ 0 := fun e => HG.out ⟨rfl, h1, e⟩
        subst h1
        clear HG
        go_enter Try.func5, Try.ntmps5
        go_wp2_with (first | (go_at_call 11; (with_reducible refine (hA _).mono ?_); rintro e w' ⟨rfl, hg⟩; obtain ⟨n, os, rfl⟩ := hg.out; clear hg) | (go_at_call 12; (with_reducible refine (hF _).mono ?_); rintro e w' ⟨rfl, rfl⟩) | (go_at_call 17; (with_reducible refine (hC _ (by repeat (first | exact Bl.refl _ | with_reducible apply Bl.alloc | with_reducible apply Bl.grow | with_reducible apply Bl.sd | with_reducible apply Bl.drewN | with_reducible apply Bl.drew))).mono ?_); rintro e w' ⟨rfl, hg⟩; obtain ⟨n, os, rfl⟩ := hg.out; clear hg) | (go_at_call 18; (with_reducible refine (hQ _).mono ?_); rintro e w' ⟨rfl, hg⟩; obtain ⟨n, os, rfl⟩ := hg.out; clear hg))
        all_goals
          go_ret
          exact ⟨rfl, (by repeat (first | exact Bl.refl _ | with_reducible apply Bl.alloc | with_reducible apply Bl.grow | with_reducible apply Bl.sd | with_reducible apply Bl.drewN | with_reducible apply Bl.drew))⟩
      · clear HG
        go_enter Try.func5, Try.ntmps5
        go_wp2_with (first | (go_at_call 11; (with_reducible refine (hA _).mono ?_); rintro e w' ⟨rfl, hg⟩; obtain ⟨n, os, rfl⟩ := hg.out; clear hg) | (go_at_call 12; (with_reducible refine (hF _).mono ?_); rintro e w' ⟨rfl, rfl⟩) | (go_at_call 17; (with_reducible refine (hC _ (by repeat (first | exact Bl.refl _ | with_reducible apply Bl.alloc | with_reducible apply Bl.grow | with_reducible apply Bl.sd | with_reducible apply Bl.drewN | with_reducible apply Bl.drew))).mono ?_); rintro e w' ⟨rfl, hg⟩; obtain ⟨n, os, rfl⟩ := hg.out; clear hg) | (go_at_call 18; (with_reducible refine (hQ _).mono ?_); rintro e w' ⟨rfl, hg⟩; obtain ⟨n, os, rfl⟩ := hg.out; clear hg))
        all_goals
          go_ret
          exact ⟨rfl, (by repeat (first | exact Bl.refl _ | with_reducible apply Bl.alloc | with_reducible apply Bl.grow | with_reducible apply Bl.sd | with_reducible apply Bl.drewN | with_reducible apply Bl.drew))⟩
  case pos =>
    obtain ⟨hf, h1, h2⟩ := hgo
    obtain ⟨b, ch, e1, e2, e3, e4⟩ := sel_again h1 h2 hm0 hm1
    obtain ⟨b0, b1, b2, b3, b4, b5⟩ := b
    have hP : ∀ W, Bl w W → _ := fun W h => pselect A c l a0 a1 a2 a3 a4 a5 mg W (hr.bl h) hc
    have hS : ∀ W, Bl w W → _ := fun W h => pselect A c l b0 b1 b2 b3 b4 b5 mg W (hr.bl h) hc
    have hB := rcheck b0 b1 b2 b3 b4 b5
    rw [e1] at hP
    rw [e2] at hS
    rw [e3] at hB
    rw [hf] at hF
    rw [h1] at hC
    rw [h2] at hQ
    have E4 := Hd.mk e4
    dsimp only [vR] at *
    clear e1 e2 e3 e4 h1 h2 hf hr
    go_enter Try.func5, Try.ntmps5
    go_upto_region 6 with (first | (go_at_call 11; (with_reducible refine (hA _).mono ?_); rintro e w' ⟨rfl, hg⟩; obtain ⟨n1, os1, rfl⟩ := hg.out; clear hg) | (go_at_call 12; (with_reducible refine (hF _).mono ?_); rintro e w' ⟨rfl, rfl⟩) | (go_at_call 17; (with_reducible refine (hC _ (by repeat (first | exact Bl.refl _ | with_reducible apply Bl.alloc | with_reducible apply Bl.grow | with_reducible apply Bl.sd | with_reducible apply Bl.drewN | with_reducible apply Bl.drew))).mono ?_); rintro e w' ⟨rfl, hg⟩; obtain ⟨n2, os2, rfl⟩ := hg.out; clear hg) | (go_at_call 18; (with_reducible refine (hQ _).mono ?_); rintro e w' ⟨rfl, hg⟩; obtain ⟨n3, os3, rfl⟩ := hg.out; clear hg) | (go_at_call 15; (with_reducible refine (hP _ (by repeat (first | exact Bl.refl _ | with_reducible apply Bl.alloc | with_reducible apply Bl.grow | with_reducible apply Bl.sd | with_reducible apply Bl.drewN | with_reducible apply Bl.drew))).mono ?_); rintro e w' ⟨rfl, hg⟩; obtain ⟨n4, os4, rfl⟩ := hg.out; clear hg))
    generalize hW : World.alloc _ _ = W
    have HWe := Hd.mk hW
    clear hW
    have g0 : W.cell? ⟨w.heap.size, 0, none⟩ = some (.int .i64 a0) := by rw [← HWe.out]; go_simp
    have g1 : W.cell? ⟨w.heap.size, 1, none⟩ = some (.int .i64 a1) := by rw [← HWe.out]; go_simp
    have g2 : W.cell? ⟨w.heap.size, 2, none⟩ = some (.int .i64 a2) := by rw [← HWe.out]; go_simp
    have g3 : W.cell? ⟨w.heap.size, 3, none⟩ = some (.int .i64 a3) := by rw [← HWe.out]; go_simp
    have g4 : W.cell? ⟨w.heap.size, 4, none⟩ = some (.int .i64 a4) := by rw [← HWe.out]; go_simp
    have g5 : W.cell? ⟨w.heap.size, 5, none⟩ = some (.int .i64 a5) := by rw [← HWe.out]; go_simp
    have h0 : W.cell? ⟨w.heap.size + (1 + (os1.size + (os2.size + (os3.size + os4.size)))), 0, none⟩ = some (.int .i64 b0) := by rw [← HWe.out]; go_simp
    have h1 : W.cell? ⟨w.heap.size + (1 + (os1.size + (os2.size + (os3.size + os4.size)))), 1, none⟩ = some (.int .i64 b1) := by rw [← HWe.out]; go_simp
    have h2 : W.cell? ⟨w.heap.size + (1 + (os1.size + (os2.size + (os3.size + os4.size)))), 2, none⟩ = some (.int .i64 b2) := by rw [← HWe.out]; go_simp
    have h3 : W.cell? ⟨w.heap.size + (1 + (os1.size + (os2.size + (os3.size + os4.size)))), 3, none⟩ = some (.int .i64 b3) := by rw [← HWe.out]; go_simp
    have h4 : W.cell? ⟨w.heap.size + (1 + (os1.size + (os2.size + (os3.size + os4.size)))), 4, none⟩ = some (.int .i64 b4) := by rw [← HWe.out]; go_simp
    have h5 : W.cell? ⟨w.heap.size + (1 + (os1.size + (os2.size + (os3.size + os4.size)))), 5, none⟩ = some (.int .i64 b5) := by rw [← HWe.out]; go_simp
    have hz : w.heap.size < W.heap.size := by rw [← HWe.out]; first | (go_simp; done) | (simp [go_sem]; omega) | (go_simp; omega)
    have hz7 : w.heap.size + (1 + (os1.size + (os2.size + (os3.size + os4.size)))) < W.heap.size := by rw [← HWe.out]; first | (go_simp; done) | (simp [go_sem]; omega) | (go_simp; omega)
    have hB5 : Bl w W := by rw [← HWe.out]; exact (by repeat (first | exact Bl.refl _ | with_reducible apply Bl.alloc | with_reducible apply Bl.grow | with_reducible apply Bl.sd | with_reducible apply Bl.drewN | with_reducible apply Bl.drew))
    have hs := fun X (h : Bl W X) => hS X (hB5.trans h)
    have HB5 := Hd.mk hB5
    have hch : (ch == (b2 != a2)) = true := by rw [E4.out]; simp
    clear hS hP HWe hB5
    go_wp2_with (first | (go_at_call 15; (with_reducible refine (hs _ (by repeat (first | exact Bl.refl _ | with_reducible apply Bl.alloc | with_reducible apply Bl.grow | with_reducible apply Bl.sd | with_reducible apply Bl.drewN | with_reducible apply Bl.drew))).mono ?_); rintro e w' ⟨rfl, hg⟩; obtain ⟨n, os, rfl⟩ := hg.out; clear hg) | (go_at_call 18; (with_reducible refine (hB _).mono ?_); rintro e w' ⟨rfl, hg⟩; obtain ⟨n, os, rfl⟩ := hg.out; clear hg))
    all_goals
      go_ret
      exact ⟨ret_bool (by simp), HB5.out.trans (by repeat (first | exact Bl.refl _ | with_reducible apply Bl.alloc | with_reducible apply Bl.grow | with_reducible apply Bl.sd | with_reducible apply Bl.drewN | with_reducible apply Bl.drew))⟩
end Go.Proofs.Ytlifpafnkagofaa.L
