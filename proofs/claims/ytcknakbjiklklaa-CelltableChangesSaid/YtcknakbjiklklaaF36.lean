import Derived.Test.YtcknakbjiklklaaF30
import Derived.Test.YtcknakbjiklklaaF20
import Derived.Test.YtcknakbjiklklaaF33
/- hopmeshref16.Add. -/
namespace Go.Proofs.Ytcknakbjiklklaa.F
open Go.RowKit Go.Sort Go.Proofs.Ytcknakbjiklklaa.B Go.Proofs.Ytcknakbjiklklaa.S
set_option linter.unusedVariables false
set_option linter.unusedSimpArgs false
set_option maxHeartbeats 4000000 in
set_option maxRecDepth 100000 in
theorem xadd (nd len : Int) (A : Option Addr) (c : Nat) (l : List TC) (x : TC) (w : World) (hr : Rd w A l) (hc : l.length ≤ c) :
    Calls Try.prog 38 #[.agg #[.int .i64 nd, .int .i64 len, .slice A l.length c], vT x] w (PT (addS nd len l x) w) := by
  have hm := mixed
  have hC : ∀ W, Gr w W → _ := fun W h => xcheck nd len A c l W (hr.gr h) hc
  obtain ⟨x0, x1, x2, x3, x4, x5⟩ := x
  simp only [vT]
  by_cases h1 : checkT nd len l = 0
  · have hFm := qcell nd len (.slice A l.length c) x0 x1 x2 x4 x5 x3 ⟨_, _, _, rfl⟩
    obtain ⟨_, _, h512, _, hso⟩ := checkT_ok h1
    rw [h1] at hC
    by_cases h2 : formS ⟨x0, x1, x2, x3, x4, x5⟩ nd len = 0
    · have hB : ∀ W, Gr w W → _ := fun W h => qtaken A c l x0 x2 W (hr.gr h) hc
      rw [show l.any (takenP x0 x2) = foundT l ⟨x0, x1, x2, x3, x4, x5⟩ from taken_found (x := ⟨x0, x1, x2, x3, x4, x5⟩) hso] at hB
      rw [h2] at hFm
      cases h3 : foundT l ⟨x0, x1, x2, x3, x4, x5⟩ with
      | true =>
        have hs : addS nd len l ⟨x0, x1, x2, x3, x4, x5⟩ = (⟨0, 0, []⟩, 16) := by unfold addS; rw [if_neg (by simp [h1]), if_neg (by simp [h2]), if_pos h3]
        rw [hs]
        rw [h3] at hB
        clear hr hs h1 h2 h3 hso
        go_enter Try.func38, Try.ntmps38
        go_wp2_with (first | (go_at_call 14; (with_reducible refine (hC _ (by repeat (first | exact Gr.refl _ | with_reducible apply Gr.alloc | with_reducible apply Gr.grow | with_reducible apply Gr.drewN | with_reducible apply Gr.drew))).mono ?_); rintro e w' ⟨rfl, hg⟩; obtain ⟨n, os, rfl⟩ := hg.out; clear hg) | (go_at_call 46; (with_reducible refine (hFm _).mono ?_); rintro e w' ⟨rfl, hg⟩; obtain ⟨n, os, rfl⟩ := hg.out; clear hg) | (go_at_call 52; (with_reducible refine (hB _ (by repeat (first | exact Gr.refl _ | with_reducible apply Gr.alloc | with_reducible apply Gr.grow | with_reducible apply Gr.drewN | with_reducible apply Gr.drew))).mono ?_); rintro e w' ⟨rfl, hg⟩; obtain ⟨n, os, rfl⟩ := hg.out; clear hg))
        refine ⟨rfl, _, by simp [results, Try.results38, go_sem]; (repeat' first | rfl | apply And.intro), PT.nil (by repeat (first | exact Bl.refl _ | with_reducible apply Bl.alloc | with_reducible apply Bl.grow | with_reducible apply Bl.sd | with_reducible apply Bl.drewN | with_reducible apply Bl.drew))⟩
      | false =>
        rw [h3] at hB
        by_cases h4 : l.length = 512
        · have hs : addS nd len l ⟨x0, x1, x2, x3, x4, x5⟩ = (⟨0, 0, []⟩, 8) := by unfold addS; rw [if_neg (by simp [h1]), if_neg (by simp [h2]), if_neg (by simp [h3]), if_pos h4]
          rw [hs]
          rw [h4] at hC hB hFm ⊢
          clear hr hs h1 h2 h3 hso
          go_enter Try.func38, Try.ntmps38
          go_wp2_with (first | (go_at_call 14; (with_reducible refine (hC _ (by repeat (first | exact Gr.refl _ | with_reducible apply Gr.alloc | with_reducible apply Gr.grow | with_reducible apply Gr.drewN | with_reducible apply Gr.drew))).mono ?_); rintro e w' ⟨rfl, hg⟩; obtain ⟨n, os, rfl⟩ := hg.out; clear hg) | (go_at_call 46; (with_reducible refine (hFm _).mono ?_); rintro e w' ⟨rfl, hg⟩; obtain ⟨n, os, rfl⟩ := hg.out; clear hg) | (go_at_call 52; (with_reducible refine (hB _ (by repeat (first | exact Gr.refl _ | with_reducible apply Gr.alloc | with_reducible apply Gr.grow | with_reducible apply Gr.drewN | with_reducible apply Gr.drew))).mono ?_); rintro e w' ⟨rfl, hg⟩; obtain ⟨n, os, rfl⟩ := hg.out; clear hg))
          refine ⟨rfl, _, by simp [results, Try.results38, go_sem]; (repeat' first | rfl | apply And.intro), PT.nil (by repeat (first | exact Bl.refl _ | with_reducible apply Bl.alloc | with_reducible apply Bl.grow | with_reducible apply Bl.sd | with_reducible apply Bl.drewN | with_reducible apply Bl.drew))⟩
        · have hs : addS nd len l ⟨x0, x1, x2, x3, x4, x5⟩ = (⟨nd, len, insT l ⟨x0, x1, x2, x3, x4, x5⟩⟩, 0) := by unfold addS; rw [if_neg (by simp [h1]), if_neg (by simp [h2]), if_neg (by simp [h3]), if_neg h4]
          rw [hs]
          have hP : ∀ W, Bl w W → _ := fun W h => qput A c l ⟨x0, x1, x2, x3, x4, x5⟩ W (hr.bl h) hc hso (by omega)
          simp only [vT] at hP
          have h4z : ¬ ((l.length : Int) = 512) := by omega
          have h4b : ((l.length : Int) == 512) = false := by simp; omega
          clear hr hs h1 h2 h3 hso
          generalize insT l ⟨x0, x1, x2, x3, x4, x5⟩ = l2 at *
          go_enter Try.func38, Try.ntmps38
          go_upto_region 10 with (first | (go_at_call 14; (with_reducible refine (hC _ (by repeat (first | exact Gr.refl _ | with_reducible apply Gr.alloc | with_reducible apply Gr.grow | with_reducible apply Gr.drewN | with_reducible apply Gr.drew))).mono ?_); rintro e w' ⟨rfl, hg⟩; obtain ⟨n, os, rfl⟩ := hg.out; clear hg) | (go_at_call 46; (with_reducible refine (hFm _).mono ?_); rintro e w' ⟨rfl, hg⟩; obtain ⟨n, os, rfl⟩ := hg.out; clear hg) | (go_at_call 52; (with_reducible refine (hB _ (by repeat (first | exact Gr.refl _ | with_reducible apply Gr.alloc | with_reducible apply Gr.grow | with_reducible apply Gr.drewN | with_reducible apply Gr.drew))).mono ?_); rintro e w' ⟨rfl, hg⟩; obtain ⟨n, os, rfl⟩ := hg.out; clear hg))
          generalize hX : Sort.grow _ _ = X
          have HXe := Hd.mk hX
          clear hX
          have t0 : T3 X w.heap.size nd len (.slice A l.length c) := ⟨by rw [← HXe.out]; simp [go_sem], by rw [← HXe.out]; go_simp, by rw [← HXe.out]; go_simp, by rw [← HXe.out]; go_simp, fun k => by rw [← HXe.out]; go_simp⟩
          have t1 : T6 X (w.heap.size + 1) ⟨x0, x1, x2, x3, x4, x5⟩ := ⟨by rw [← HXe.out]; simp [go_sem], by rw [← HXe.out]; go_simp, by rw [← HXe.out]; go_simp, by rw [← HXe.out]; go_simp, by rw [← HXe.out]; go_simp, by rw [← HXe.out]; go_simp, by rw [← HXe.out]; go_simp⟩
          have t2 : T3 X (w.heap.size + 2) 0 0 (.slice none 0 0) := ⟨by rw [← HXe.out]; simp [go_sem], by rw [← HXe.out]; go_simp, by rw [← HXe.out]; go_simp, by rw [← HXe.out]; go_simp, fun k => by rw [← HXe.out]; go_simp⟩
          have BX : Bl w X := by rw [← HXe.out]; exact (by repeat (first | exact Bl.refl _ | with_reducible apply Bl.alloc | with_reducible apply Bl.grow | with_reducible apply Bl.sd | with_reducible apply Bl.drewN | with_reducible apply Bl.drew))
          have hPX : ∀ Y, Bl X Y → _ := fun Y h => hP Y (BX.trans h)
          have HB := Hd.mk BX
          have H0 := Hd.mk t0
          have H1 := Hd.mk t1
          have H2 := Hd.mk t2
          have hp2 : w.heap.size ≤ w.heap.size + 2 := by omega
          have hp3 : w.heap.size ≠ w.heap.size + 2 := by omega
          have hp4 : w.heap.size + 1 ≠ w.heap.size + 2 := by omega
          have z2 := t2.lt
          have hws := BX.size
          clear HXe BX hP hC hFm hB t0 t1 t2
          generalize w.heap.size + 1 = p1 at *
          generalize w.heap.size + 2 = p2 at *
          generalize hp0 : w.heap.size = p0 at *
          obtain ⟨z0, a0, a1, a2, a3⟩ := H0.out
          obtain ⟨z1, b0, b1, b2, b3, b4, b5⟩ := H1.out
          obtain ⟨_, c0, c1, c2, c3⟩ := H2.out
          dsimp only at b0 b1 b2 b3 b4 b5
          go_region_held3 (fun w' => w'.cell? ⟨p0, 0, none⟩ = some (.int .i64 nd) ∧ w'.cell? ⟨p0, 1, none⟩ = some (.int .i64 len) ∧ w'.cell? ⟨p0, 2, none⟩ = some (.slice A l.length c) ∧ w'.cell? ⟨p1, 0, none⟩ = some (.int .i64 x0) ∧ w'.cell? ⟨p1, 1, none⟩ = some (.int .i64 x1) ∧ w'.cell? ⟨p1, 2, none⟩ = some (.int .i64 x2) ∧ w'.cell? ⟨p1, 3, none⟩ = some (.bool x3) ∧ w'.cell? ⟨p1, 4, none⟩ = some (.int .i64 x4) ∧ w'.cell? ⟨p1, 5, none⟩ = some (.int .i64 x5)) ((go_simp; done)) (first | (go_at_call 53; (with_reducible refine (hPX _ (by repeat (first | with_reducible exact Bl.refl _ | with_reducible apply Bl.alloc | with_reducible apply Bl.grow | with_reducible apply Bl.sd | with_reducible apply Bl.drewN | with_reducible apply Bl.drew))).mono ?_); rintro e Y1 ⟨v1, rfl, ho1, hb1⟩; have B1 : Bl X Y1 := Bl.trans (by repeat (first | with_reducible exact Bl.refl _ | with_reducible apply Bl.alloc | with_reducible apply Bl.grow | with_reducible apply Bl.sd | with_reducible apply Bl.drewN | with_reducible apply Bl.drew)) hb1; obtain ⟨A1, k1, rfl, hc1, _⟩ := ho1.rd; obtain ⟨zm, m0, m1, m2, m3⟩ := H0.out.bl B1; obtain ⟨zg, g0, g1, g2, g3, g4, g5⟩ := H1.out.bl B1; obtain ⟨zn, n0, n1, n2, n3⟩ := H2.out.bl B1; dsimp only at g0 g1 g2 g3 g4 g5; have HO1 := Hd.mk (Ow.lower ho1 (by first | exact Nat.le_refl _ | (simp [go_sem]; done))); have HB1 := Hd.mk B1; clear ho1 hb1 B1))
          have HBw := Hd.mk (HB.out.trans HB1.out)
          have HO2 := Hd.mk (Ow.lower (b0 := X.heap.size) HO1.out (by simp [go_sem]))
          go_wp2
          subst hp0
          refine ⟨rfl, _, by simp [results, Try.results38, go_sem, n0, n1, n2]; (repeat' first | rfl | apply And.intro), ⟨_, rfl, Ow.lower (by repeat (first | with_reducible exact HO2.out | with_reducible refine Ow.setCell ?_ (by omega) _)) hws, (by repeat (first | with_reducible exact HBw.out | with_reducible refine Bl.setCell ?_ (by omega)))⟩⟩
    · have hs : addS nd len l ⟨x0, x1, x2, x3, x4, x5⟩ = (⟨0, 0, []⟩, formS ⟨x0, x1, x2, x3, x4, x5⟩ nd len) := by unfold addS; rw [if_neg (by simp [h1]), if_pos h2]
      rw [hs]
      clear hr hs h1 hso
      generalize formS ⟨x0, x1, x2, x3, x4, x5⟩ nd len = q at *
      have h2' : (q != 0) = true := by simp [h2]
      go_enter Try.func38, Try.ntmps38
      go_wp2_with (first | (go_at_call 14; (with_reducible refine (hC _ (by repeat (first | exact Gr.refl _ | with_reducible apply Gr.alloc | with_reducible apply Gr.grow | with_reducible apply Gr.drewN | with_reducible apply Gr.drew))).mono ?_); rintro e w' ⟨rfl, hg⟩; obtain ⟨n, os, rfl⟩ := hg.out; clear hg) | (go_at_call 46; (with_reducible refine (hFm _).mono ?_); rintro e w' ⟨rfl, hg⟩; obtain ⟨n, os, rfl⟩ := hg.out; clear hg))
      refine ⟨rfl, _, by simp [results, Try.results38, go_sem]; (repeat' first | rfl | apply And.intro), PT.nil (by repeat (first | exact Bl.refl _ | with_reducible apply Bl.alloc | with_reducible apply Bl.grow | with_reducible apply Bl.sd | with_reducible apply Bl.drewN | with_reducible apply Bl.drew))⟩
  · have hs : addS nd len l ⟨x0, x1, x2, x3, x4, x5⟩ = (⟨0, 0, []⟩, 1) := by unfold addS; rw [if_pos h1]
    rw [hs]
    clear hr hs
    generalize checkT nd len l = q at *
    have h2' : (q != 0) = true := by simp [h1]
    go_enter Try.func38, Try.ntmps38
    go_wp2_with (first | (go_at_call 14; (with_reducible refine (hC _ (by repeat (first | exact Gr.refl _ | with_reducible apply Gr.alloc | with_reducible apply Gr.grow | with_reducible apply Gr.drewN | with_reducible apply Gr.drew))).mono ?_); rintro e w' ⟨rfl, hg⟩; obtain ⟨n, os, rfl⟩ := hg.out; clear hg))
    refine ⟨rfl, _, by simp [results, Try.results38, go_sem]; (repeat' first | rfl | apply And.intro), PT.nil (by repeat (first | exact Bl.refl _ | with_reducible apply Bl.alloc | with_reducible apply Bl.grow | with_reducible apply Bl.sd | with_reducible apply Bl.drewN | with_reducible apply Bl.drew))⟩
end Go.Proofs.Ytcknakbjiklklaa.F
