import Derived.Test.YtcknakbjiklklaaF18
import Derived.Test.YtcknakbjiklklaaF28
import Derived.Test.YtcknakbjiklklaaF35
import Derived.Test.YtcknakbjiklklaaF37
/- The law CelltableChanges, walked. -/
namespace Go.Proofs.Ytcknakbjiklklaa.L
open Go.RowKit Go.Sort Go.Proofs.Ytcknakbjiklklaa.B Go.Proofs.Ytcknakbjiklklaa.S Go.Proofs.Ytcknakbjiklklaa.F
set_option linter.unusedVariables false
set_option linter.unusedSimpArgs false
theorem same_true (n m : Int) (A B : Option Addr) (c d : Nat) (l : List TC) (w : World) (ha : Rd w A l) (hb : Rd w B l) (hc : l.length ≤ c) (hd : l.length ≤ d) :
    Calls Try.prog 20 #[.agg #[.int .i64 n, .int .i64 m, .slice A l.length c], .agg #[.int .i64 n, .int .i64 m, .slice B l.length d]] w fun e w' => e = .returned (.bool true) ∧ Gr w w' := by
  have := qsame n m n m A B c d l l w ha hb hc hd
  rwa [decide_eq_true ⟨rfl, rfl, rfl⟩] at this
set_option maxHeartbeats 4000000 in
set_option maxRecDepth 100000 in
theorem lawChanges (nd len : Int) (A : Option Addr) (c : Nat) (l : List TC) (x : TC) (w : World) (hr : Rd w A l) (hc : l.length ≤ c) :
    Calls Try.prog 8 #[.agg #[.int .i64 nd, .int .i64 len, .slice A l.length c], vT x] w fun e w' => e = .returned (.bool true) ∧ Bl w w' := by
  have hm := mixed
  have hA := awake_
  have hF := fun W => qfew nd len A c l W hr.1
  have h1 : ∀ W, Bl w W → _ := fun W h => tadd nd len A c l x W (hr.bl h) hc
  have h2 : ∀ W, Bl w W → _ := fun W h => xadd nd len A c l x W (hr.bl h) hc
  have h3 : ∀ W, Bl w W → _ := fun W h => trem nd len A c l x W (hr.bl h) hc
  have h4 : ∀ W, Bl w W → _ := fun W h => xrem nd len A c l x W (hr.bl h) hc
  clear hr
  generalize addS nd len l x = r at *
  generalize remS nd len l x = m at *
  obtain ⟨⟨rn, rl, rc⟩, re⟩ := r
  obtain ⟨⟨mn, ml, mc⟩, me⟩ := m
  obtain ⟨x0, x1, x2, x3, x4, x5⟩ := x
  simp only [vT] at h1 h2 h3 h4 ⊢
  generalize hfe : fewT len l.length = f at *
  clear hfe
  cases f with
  | false =>
    go_enter Try.func8, Try.ntmps8
    go_wp2_with (first | (go_at_call 11; (with_reducible refine (hA _).mono ?_); rintro e w' ⟨rfl, hg⟩; obtain ⟨n, os, rfl⟩ := hg.out; clear hg) | (go_at_call 12; (with_reducible refine (hF _).mono ?_); rintro e w' ⟨rfl, hg⟩; obtain ⟨n, os, rfl⟩ := hg.out; clear hg))
    go_ret
    exact ⟨rfl, (by repeat (first | exact Bl.refl _ | with_reducible apply Bl.alloc | with_reducible apply Bl.grow | with_reducible apply Bl.sd | with_reducible apply Bl.drewN | with_reducible apply Bl.drew))⟩
  | true =>
    go_enter Try.func8, Try.ntmps8
    go_upto_region 5 with (first | (go_at_call 11; (with_reducible refine (hA _).mono ?_); rintro e w' ⟨rfl, hg⟩; obtain ⟨n, os, rfl⟩ := hg.out; clear hg) | (go_at_call 12; (with_reducible refine (hF _).mono ?_); rintro e w' ⟨rfl, hg⟩; obtain ⟨n, os, rfl⟩ := hg.out; clear hg))
    generalize hW : Sort.grow _ _ = W
    have HWe := Hd.mk hW
    clear hW
    have t0 : T3 W w.heap.size nd len (.slice A l.length c) := ⟨by rw [← HWe.out]; simp [go_sem], by rw [← HWe.out]; go_simp, by rw [← HWe.out]; go_simp, by rw [← HWe.out]; go_simp, fun k => by rw [← HWe.out]; go_simp⟩
    have t1 : T6 W (w.heap.size + 1) ⟨x0, x1, x2, x3, x4, x5⟩ := ⟨by rw [← HWe.out]; simp [go_sem], by rw [← HWe.out]; go_simp, by rw [← HWe.out]; go_simp, by rw [← HWe.out]; go_simp, by rw [← HWe.out]; go_simp, by rw [← HWe.out]; go_simp, by rw [← HWe.out]; go_simp⟩
    have HB0 : Hd (Bl w W) := ⟨by rw [← HWe.out]; exact (by repeat (first | exact Bl.refl _ | with_reducible apply Bl.alloc | with_reducible apply Bl.grow | with_reducible apply Bl.sd | with_reducible apply Bl.drewN | with_reducible apply Bl.drew))⟩
    have HT0 := Hd.mk t0
    have HX0 := Hd.mk t1
    clear HWe t0 t1 hA hF
    generalize w.heap.size + 1 = p3 at *
    generalize w.heap.size = p2 at *

    obtain ⟨z0, a0, a1, a2, a3⟩ := HT0.out
    obtain ⟨z1, b0, b1, b2, b3, b4, b5⟩ := HX0.out
    dsimp only at b0 b1 b2 b3 b4 b5
    go_wp2_with fail
    refine (h1 _ (HB0.out.trans (by repeat (first | with_reducible exact Bl.refl _ | with_reducible apply Bl.alloc | with_reducible apply Bl.grow | with_reducible apply Bl.sd | with_reducible apply Bl.drewN | with_reducible apply Bl.drew)))).mono ?_
    rintro e W1 ⟨v1, rfl, ho, hb⟩
    obtain ⟨A1, c1, rfl, hc1, rd⟩ := ho.rd
    dsimp only at hc1 rd
    have hb' : Bl W W1 := Bl.trans (by repeat (first | with_reducible exact Bl.refl _ | with_reducible apply Bl.alloc | with_reducible apply Bl.grow | with_reducible apply Bl.sd | with_reducible apply Bl.drewN | with_reducible apply Bl.drew)) hb
    have HB1 := Hd.mk (HB0.out.trans hb')
    have HT1 := Hd.mk (HT0.out.bl hb')
    have HX1 := Hd.mk (HX0.out.bl hb')
    have HR1_1 := Hd.mk rd
    clear z0 a0 a1 a2 a3 z1 b0 b1 b2 b3 b4 b5 ho hb hb' rd h1 HB0 HT0 HX0
    obtain ⟨z0, a0, a1, a2, a3⟩ := HT1.out
    obtain ⟨z1, b0, b1, b2, b3, b4, b5⟩ := HX1.out
    dsimp only at b0 b1 b2 b3 b4 b5
    go_wp2_with fail
    refine (h2 _ (HB1.out.trans (by repeat (first | with_reducible exact Bl.refl _ | with_reducible apply Bl.alloc | with_reducible apply Bl.grow | with_reducible apply Bl.sd | with_reducible apply Bl.drewN | with_reducible apply Bl.drew)))).mono ?_
    rintro e W2 ⟨v2, rfl, ho, hb⟩
    obtain ⟨A2, c2, rfl, hc2, rd⟩ := ho.rd
    dsimp only at hc2 rd
    have ta : T3 W2 W1.heap.size rn rl (.slice A1 rc.length c1) := T3.bl ⟨by simp [go_sem], by go_simp, by go_simp, by go_simp, fun k => by go_simp⟩ hb
    have hb' : Bl W1 W2 := Bl.trans (by repeat (first | with_reducible exact Bl.refl _ | with_reducible apply Bl.alloc | with_reducible apply Bl.grow | with_reducible apply Bl.sd | with_reducible apply Bl.drewN | with_reducible apply Bl.drew)) hb
    have HB2 := Hd.mk (HB1.out.trans hb')
    have HT2 := Hd.mk (HT1.out.bl hb')
    have HX2 := Hd.mk (HX1.out.bl hb')
    have HR1_2 := Hd.mk (HR1_1.out.bl hb')
    have HA1_2 := Hd.mk ta
    have HR2_2 := Hd.mk rd
    clear z0 a0 a1 a2 a3 z1 b0 b1 b2 b3 b4 b5 ho hb hb' rd h2 HB1 HT1 HX1 HR1_1 ta
    generalize W1.heap.size = q1 at *
    obtain ⟨z0, a0, a1, a2, a3⟩ := HT2.out
    obtain ⟨z1, b0, b1, b2, b3, b4, b5⟩ := HX2.out
    dsimp only at b0 b1 b2 b3 b4 b5
    go_wp2_with fail
    refine (h3 _ (HB2.out.trans (by repeat (first | with_reducible exact Bl.refl _ | with_reducible apply Bl.alloc | with_reducible apply Bl.grow | with_reducible apply Bl.sd | with_reducible apply Bl.drewN | with_reducible apply Bl.drew)))).mono ?_
    rintro e W3 ⟨v3, rfl, ho, hb⟩
    obtain ⟨A3, c3, rfl, hc3, rd⟩ := ho.rd
    dsimp only at hc3 rd
    have ta : T3 W3 W2.heap.size rn rl (.slice A2 rc.length c2) := T3.bl ⟨by simp [go_sem], by go_simp, by go_simp, by go_simp, fun k => by go_simp⟩ hb
    have hb' : Bl W2 W3 := Bl.trans (by repeat (first | with_reducible exact Bl.refl _ | with_reducible apply Bl.alloc | with_reducible apply Bl.grow | with_reducible apply Bl.sd | with_reducible apply Bl.drewN | with_reducible apply Bl.drew)) hb
    have HB3 := Hd.mk (HB2.out.trans hb')
    have HT3 := Hd.mk (HT2.out.bl hb')
    have HX3 := Hd.mk (HX2.out.bl hb')
    have HA1_3 := Hd.mk (HA1_2.out.bl hb')
    have HR1_3 := Hd.mk (HR1_2.out.bl hb')
    have HR2_3 := Hd.mk (HR2_2.out.bl hb')
    have HA2_3 := Hd.mk ta
    have HR3_3 := Hd.mk rd
    clear z0 a0 a1 a2 a3 z1 b0 b1 b2 b3 b4 b5 ho hb hb' rd h3 HB2 HT2 HX2 HA1_2 HR1_2 HR2_2 ta
    generalize W2.heap.size = q2 at *
    obtain ⟨z0, a0, a1, a2, a3⟩ := HT3.out
    obtain ⟨z1, b0, b1, b2, b3, b4, b5⟩ := HX3.out
    dsimp only at b0 b1 b2 b3 b4 b5
    go_wp2_with fail
    refine (h4 _ (HB3.out.trans (by repeat (first | with_reducible exact Bl.refl _ | with_reducible apply Bl.alloc | with_reducible apply Bl.grow | with_reducible apply Bl.sd | with_reducible apply Bl.drewN | with_reducible apply Bl.drew)))).mono ?_
    rintro e W4 ⟨v4, rfl, ho, hb⟩
    obtain ⟨A4, c4, rfl, hc4, rd⟩ := ho.rd
    dsimp only at hc4 rd
    have ta : T3 W4 W3.heap.size mn ml (.slice A3 mc.length c3) := T3.bl ⟨by simp [go_sem], by go_simp, by go_simp, by go_simp, fun k => by go_simp⟩ hb
    have hb' : Bl W3 W4 := Bl.trans (by repeat (first | with_reducible exact Bl.refl _ | with_reducible apply Bl.alloc | with_reducible apply Bl.grow | with_reducible apply Bl.sd | with_reducible apply Bl.drewN | with_reducible apply Bl.drew)) hb
    have HB4 := Hd.mk (HB3.out.trans hb')
    have HT4 := Hd.mk (HT3.out.bl hb')
    have HX4 := Hd.mk (HX3.out.bl hb')
    have HA1_4 := Hd.mk (HA1_3.out.bl hb')
    have HA2_4 := Hd.mk (HA2_3.out.bl hb')
    have HR1_4 := Hd.mk (HR1_3.out.bl hb')
    have HR2_4 := Hd.mk (HR2_3.out.bl hb')
    have HR3_4 := Hd.mk (HR3_3.out.bl hb')
    have HA3_4 := Hd.mk ta
    have HR4_4 := Hd.mk rd
    clear z0 a0 a1 a2 a3 z1 b0 b1 b2 b3 b4 b5 ho hb hb' rd h4 HB3 HT3 HX3 HA1_3 HA2_3 HR1_3 HR2_3 HR3_3 ta
    generalize W3.heap.size = q3 at *
    obtain ⟨y0, y1, y2, y3, y4⟩ := HA1_4.out
    obtain ⟨z0, z1, z2, z3, z4⟩ := HA2_4.out
    obtain ⟨u0, u1, u2, u3, u4⟩ := HA3_4.out
    have hS : ∀ W, Gr W4 W → _ := fun W h => same_true rn rl A1 A2 c1 c2 rc W (HR1_4.out.gr h) (HR2_4.out.gr h) hc1 hc2
    have hE : ∀ W, Gr W4 W → _ := fun W h => same_true mn ml A3 A4 c3 c4 mc W (HR3_4.out.gr h) (HR4_4.out.gr h) hc3 hc4
    go_wp2_with (first | (go_at_call 20; (with_reducible refine (hS _ (by repeat (first | exact Gr.refl _ | with_reducible apply Gr.alloc | with_reducible apply Gr.grow | with_reducible apply Gr.drewN | with_reducible apply Gr.drew))).mono ?_); rintro e w' ⟨rfl, hg⟩; obtain ⟨n, os, rfl⟩ := hg.out; clear hg) | (go_at_call 20; (with_reducible refine (hE _ (by repeat (first | exact Gr.refl _ | with_reducible apply Gr.alloc | with_reducible apply Gr.grow | with_reducible apply Gr.drewN | with_reducible apply Gr.drew))).mono ?_); rintro e w' ⟨rfl, hg⟩; obtain ⟨n, os, rfl⟩ := hg.out; clear hg))
    go_ret
    exact ⟨rfl, HB4.out.trans (by repeat (first | with_reducible exact Bl.refl _ | with_reducible apply Bl.alloc | with_reducible apply Bl.grow | with_reducible apply Bl.sd | with_reducible apply Bl.drewN | with_reducible apply Bl.drew))⟩
end Go.Proofs.Ytcknakbjiklklaa.L
