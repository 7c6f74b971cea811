import Derived.Test.YtcknakbjiklklaaF41
/- celltable.Mirror. -/
namespace Go.Proofs.Ytcknakbjiklklaa.F
open Go.RowKit Go.Sort Go.Proofs.Ytcknakbjiklklaa.B Go.Proofs.Ytcknakbjiklklaa.S
set_option linter.unusedVariables false
set_option linter.unusedSimpArgs false
set_option maxHeartbeats 4000000 in
set_option maxRecDepth 100000 in
theorem tmirror (na la : Int) (A : Option Addr) (c : Nat) (a : List TC) (nb lb : Int) (B : Option Addr) (d : Nat) (b : List TC) (w : World) (ha : Rd w A a) (hc : a.length ≤ c) (hb : Rd w B b) (hd : b.length ≤ d) :
    Calls Try.prog 35 #[.agg #[.int .i64 na, .int .i64 la, .slice A a.length c], .agg #[.int .i64 nb, .int .i64 lb, .slice B b.length d]] w fun e w' => e = .returned (.bool (mirS na la a nb lb b)) ∧ Bl w w' := by
  have hm := mixed
  have hC : ∀ W, Gr w W → _ := fun W h => tcheck na la A c a W (ha.gr h) hc
  have hD : ∀ W, Gr w W → _ := fun W h => tcheck nb lb B d b W (hb.gr h) hd
  by_cases h1 : checkT na la a = 0
  · rw [h1] at hC
    by_cases h2 : checkT nb lb b = 0
    · rw [h2] at hD
      by_cases h3 : na = nb
      · have hs : mirS na la a nb lb b = false := by unfold mirS; rw [decide_eq_true h1, decide_eq_true h2, decide_eq_false (by simp [h3])]; rfl
        rw [hs]
        have h3b : (na == nb) = true := by simp [h3]
        clear hs ha hb h1 h2 h3
        go_enter Try.func35, Try.ntmps35
        go_wp2_with (first | (go_at_call 13; (with_reducible refine (hC _ (by repeat (first | exact Gr.refl _ | with_reducible apply Gr.alloc | with_reducible apply Gr.grow | with_reducible apply Gr.drewN | with_reducible apply Gr.drew))).mono ?_); rintro e w' ⟨rfl, hg⟩; obtain ⟨n, os, rfl⟩ := hg.out; clear hg) | (go_at_call 13; (with_reducible refine (hD _ (by repeat (first | exact Gr.refl _ | with_reducible apply Gr.alloc | with_reducible apply Gr.grow | with_reducible apply Gr.drewN | with_reducible apply Gr.drew))).mono ?_); rintro e w' ⟨rfl, hg⟩; obtain ⟨n, os, rfl⟩ := hg.out; clear hg))
        go_ret
        exact ⟨rfl, (by repeat (first | exact Bl.refl _ | with_reducible apply Bl.alloc | with_reducible apply Bl.grow | with_reducible apply Bl.sd | with_reducible apply Bl.drewN | with_reducible apply Bl.drew))⟩
      · have h3b : (na == nb) = false := by simp [h3]
        by_cases h4 : la = lb
        · have hs : mirS na la a nb lb b = oppS (betS na la a nb) (betS nb lb b na) := by unfold mirS; rw [decide_eq_true h1, decide_eq_true h2, decide_eq_true h3, decide_eq_true h4]; rfl
          rw [hs]
          have h4b : (la != lb) = false := by simp [h4]
          have hP : ∀ W, Bl w W → _ := fun W h => tbetween na la A c a nb W (ha.bl h) hc
          have hQ : ∀ W, Bl w W → _ := fun W h => tbetween nb lb B d b na W (hb.bl h) hd
          clear hs ha hb h1 h2 h3 h4
          generalize betS na la a nb = p at *
          generalize betS nb lb b na = q at *
          go_enter Try.func35, Try.ntmps35
          go_upto_region 3 with (first | (go_at_call 13; (with_reducible refine (hC _ (by repeat (first | exact Gr.refl _ | with_reducible apply Gr.alloc | with_reducible apply Gr.grow | with_reducible apply Gr.drewN | with_reducible apply Gr.drew))).mono ?_); rintro e w' ⟨rfl, hg⟩; obtain ⟨n, os, rfl⟩ := hg.out; clear hg) | (go_at_call 13; (with_reducible refine (hD _ (by repeat (first | exact Gr.refl _ | with_reducible apply Gr.alloc | with_reducible apply Gr.grow | with_reducible apply Gr.drewN | with_reducible apply Gr.drew))).mono ?_); rintro e w' ⟨rfl, hg⟩; obtain ⟨n, os, rfl⟩ := hg.out; clear hg))
          generalize hX : Sort.grow _ _ = X
          have HXe := Hd.mk hX
          clear hX
          have H0 : Hd (T3 X w.heap.size na la (.slice A a.length c)) := ⟨⟨by rw [← HXe.out]; simp [go_sem], by rw [← HXe.out]; go_simp, by rw [← HXe.out]; go_simp, by rw [← HXe.out]; go_simp, fun k => by rw [← HXe.out]; go_simp⟩⟩
          have H1 : Hd (T3 X (w.heap.size + 1) nb lb (.slice B b.length d)) := ⟨⟨by rw [← HXe.out]; simp [go_sem], by rw [← HXe.out]; go_simp, by rw [← HXe.out]; go_simp, by rw [← HXe.out]; go_simp, fun k => by rw [← HXe.out]; go_simp⟩⟩
          have HB0 : Hd (Bl w X) := ⟨by rw [← HXe.out]; exact (by repeat (first | exact Bl.refl _ | with_reducible apply Bl.alloc | with_reducible apply Bl.grow | with_reducible apply Bl.sd | with_reducible apply Bl.drewN | with_reducible apply Bl.drew))⟩
          have hPX : ∀ Y, Bl X Y → _ := fun Y h => hP Y (HB0.out.trans h)
          have hQX : ∀ Y, Bl X Y → _ := fun Y h => hQ Y (HB0.out.trans h)
          clear HXe hC hD hP hQ
          generalize w.heap.size + 1 = p1 at *
          generalize w.heap.size = p0 at *
          obtain ⟨z0, a0, a1, a2, a3⟩ := H0.out
          obtain ⟨z1, b0, b1, b2, b3⟩ := H1.out
          go_region_held3 (fun w' => w'.cell? ⟨p0, 0, none⟩ = some (.int .i64 na) ∧ w'.cell? ⟨p0, 1, none⟩ = some (.int .i64 la) ∧ w'.cell? ⟨p0, 2, none⟩ = some (.slice A a.length c) ∧ w'.cell? ⟨p1, 0, none⟩ = some (.int .i64 nb) ∧ w'.cell? ⟨p1, 1, none⟩ = some (.int .i64 lb) ∧ w'.cell? ⟨p1, 2, none⟩ = some (.slice B b.length d)) ((go_simp; done)) (first
            | (go_at_call 28; (with_reducible refine (hPX _ (by repeat (first | with_reducible exact Bl.refl _ | with_reducible apply Bl.alloc | with_reducible apply Bl.grow | with_reducible apply Bl.sd | with_reducible apply Bl.drewN | with_reducible apply Bl.drew))).mono ?_); rintro e Y1 ⟨v1, rfl, ho1, hb1⟩; have BY1 : Bl X Y1 := Bl.trans (by repeat (first | with_reducible exact Bl.refl _ | with_reducible apply Bl.alloc | with_reducible apply Bl.grow | with_reducible apply Bl.sd | with_reducible apply Bl.drewN | with_reducible apply Bl.drew)) hb1; obtain ⟨A1, c1, rfl, hc1, r1⟩ := ho1.rd; obtain ⟨zm, m0, m1, m2, m3⟩ := H0.out.bl BY1; obtain ⟨zn, n0, n1, n2, n3⟩ := H1.out.bl BY1; have HR1 := Hd.mk r1; have HY1 := Hd.mk BY1; clear ho1 hb1 r1 BY1)
            | (go_at_call 28; (with_reducible refine (hQX _ HY1.out).mono ?_); rintro e Y2 ⟨v2, rfl, ho2, hb2⟩; obtain ⟨A2, c2, rfl, hc2, r2⟩ := ho2.rd; have BY2 : Bl X Y2 := HY1.out.trans hb2; have heqf := tequalf A1 A2 c1 c2 p q Y2 (HR1.out.bl hb2) r2 hc1 hc2; obtain ⟨zg, g0, g1, g2, g3⟩ := H0.out.bl BY2; obtain ⟨zh, h0, h1, h2, h3⟩ := H1.out.bl BY2; have HYF := Hd.mk BY2; clear ho2 hb2 r2 BY2)
            | (go_at_call 67; (with_reducible refine heqf.mono ?_); rintro e w' ⟨rfl, hg⟩; obtain ⟨n, os, rfl⟩ := hg.out; clear hg))
          all_goals
            go_wp2
            go_ret
            exact ⟨ret_bool rfl, HB0.out.trans (HYF.out.trans (by repeat (first | with_reducible exact Bl.refl _ | with_reducible apply Bl.alloc | with_reducible apply Bl.grow | with_reducible apply Bl.sd | with_reducible apply Bl.drewN | with_reducible apply Bl.drew)))⟩
        · have hs : mirS na la a nb lb b = false := by unfold mirS; rw [decide_eq_true h1, decide_eq_true h2, decide_eq_true h3, decide_eq_false h4]; rfl
          rw [hs]
          have h4b : (la != lb) = true := by simp [h4]
          clear hs ha hb h1 h2 h3 h4
          go_enter Try.func35, Try.ntmps35
          go_wp2_with (first | (go_at_call 13; (with_reducible refine (hC _ (by repeat (first | exact Gr.refl _ | with_reducible apply Gr.alloc | with_reducible apply Gr.grow | with_reducible apply Gr.drewN | with_reducible apply Gr.drew))).mono ?_); rintro e w' ⟨rfl, hg⟩; obtain ⟨n, os, rfl⟩ := hg.out; clear hg) | (go_at_call 13; (with_reducible refine (hD _ (by repeat (first | exact Gr.refl _ | with_reducible apply Gr.alloc | with_reducible apply Gr.grow | with_reducible apply Gr.drewN | with_reducible apply Gr.drew))).mono ?_); rintro e w' ⟨rfl, hg⟩; obtain ⟨n, os, rfl⟩ := hg.out; clear hg))
          go_ret
          exact ⟨rfl, (by repeat (first | exact Bl.refl _ | with_reducible apply Bl.alloc | with_reducible apply Bl.grow | with_reducible apply Bl.sd | with_reducible apply Bl.drewN | with_reducible apply Bl.drew))⟩
    · have hs : mirS na la a nb lb b = false := by unfold mirS; rw [decide_eq_true h1, decide_eq_false h2]; rfl
      rw [hs]
      clear hs ha hb h1
      generalize checkT nb lb b = q at *
      have h2' : (q != 0) = true := by simp [h2]
      go_enter Try.func35, Try.ntmps35
      go_wp2_with (first | (go_at_call 13; (with_reducible refine (hC _ (by repeat (first | exact Gr.refl _ | with_reducible apply Gr.alloc | with_reducible apply Gr.grow | with_reducible apply Gr.drewN | with_reducible apply Gr.drew))).mono ?_); rintro e w' ⟨rfl, hg⟩; obtain ⟨n, os, rfl⟩ := hg.out; clear hg) | (go_at_call 13; (with_reducible refine (hD _ (by repeat (first | exact Gr.refl _ | with_reducible apply Gr.alloc | with_reducible apply Gr.grow | with_reducible apply Gr.drewN | with_reducible apply Gr.drew))).mono ?_); rintro e w' ⟨rfl, hg⟩; obtain ⟨n, os, rfl⟩ := hg.out; clear hg))
      go_ret
      exact ⟨rfl, (by repeat (first | exact Bl.refl _ | with_reducible apply Bl.alloc | with_reducible apply Bl.grow | with_reducible apply Bl.sd | with_reducible apply Bl.drewN | with_reducible apply Bl.drew))⟩
  · have hs : mirS na la a nb lb b = false := by unfold mirS; rw [decide_eq_false h1]; rfl
    rw [hs]
    clear hs ha hb
    generalize checkT na la a = q at *
    have h2' : (q != 0) = true := by simp [h1]
    go_enter Try.func35, Try.ntmps35
    go_wp2_with (first | (go_at_call 13; (with_reducible refine (hC _ (by repeat (first | exact Gr.refl _ | with_reducible apply Gr.alloc | with_reducible apply Gr.grow | with_reducible apply Gr.drewN | with_reducible apply Gr.drew))).mono ?_); rintro e w' ⟨rfl, hg⟩; obtain ⟨n, os, rfl⟩ := hg.out; clear hg))
    go_ret
    exact ⟨rfl, (by repeat (first | exact Bl.refl _ | with_reducible apply Bl.alloc | with_reducible apply Bl.grow | with_reducible apply Bl.sd | with_reducible apply Bl.drewN | with_reducible apply Bl.drew))⟩
end Go.Proofs.Ytcknakbjiklklaa.F
