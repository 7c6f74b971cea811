import Derived.Test.YtcknakbjiklklaaF18
import Derived.Test.YtcknakbjiklklaaF32
/- The law CelltableOf, walked. -/
namespace Go.Proofs.Ytcknakbjiklklaa.L
open Go.RowKit Go.Sort Go.Proofs.Ytcknakbjiklklaa.B Go.Proofs.Ytcknakbjiklklaa.S Go.Proofs.Ytcknakbjiklklaa.F
set_option linter.unusedVariables false
set_option linter.unusedSimpArgs false
theorem same_true (n m : Int) (A B : Option Addr) (c d : Nat) (l : List TC) (w : World) (ha : Rd w A l) (hb : Rd w B l) (hc : l.length ≤ c) (hd : l.length ≤ d) :
    Calls Try.prog 20 #[.agg #[.int .i64 n, .int .i64 m, .slice A l.length c], .agg #[.int .i64 n, .int .i64 m, .slice B l.length d]] w fun e w' => e = .returned (.bool true) ∧ Gr w w' := by
  have := qsame n m n m A B c d l l w ha hb hc hd
  rwa [decide_eq_true ⟨rfl, rfl, rfl⟩] at this
theorem equal_true (A B : Option Addr) (c d : Nat) (l : List Int) (w : World) (ha : RdI w A l) (hb : RdI w B l) (hc : l.length ≤ c) (hd : l.length ≤ d) :
    Calls Try.prog 21 #[.slice A l.length c, .slice B l.length d] w fun e w' => e = .returned (.bool true) ∧ Gr w w' := by
  have := feq A B c d l l w ha hb hc hd
  rwa [decide_eq_true rfl] at this
set_option maxHeartbeats 4000000 in
set_option maxRecDepth 100000 in
theorem lawOf (len offs : Int) (A : Option Addr) (c : Nat) (l : List SC) (node : Int) (w : World) (hr : RdS w A l) (hc : l.length ≤ c) :
    Calls Try.prog 4 #[.agg #[.int .i64 len, .int .i64 offs, .slice A l.length c], .int .i64 node] w fun e w' => e = .returned (.bool true) ∧ Bl w w' := by
  have hm := mixed
  have hA := awake_
  have hF := fun W => qfews len offs A c l W hr.1
  have h1 : ∀ W, Bl w W → _ := fun W h => tof len offs node A c l W (hr.bl h) hc
  have h2 : ∀ W, Bl w W → _ := fun W h => xof len offs node A c l W (hr.bl h) hc
  have h3 : ∀ W, Bl w W → _ := fun W h => tmask len offs A c l W (hr.bl h) hc
  have h4 : ∀ W, Bl w W → _ := fun W h => xmask len offs A c l W (hr.bl h) hc
  clear hr
  generalize ofS len offs l node = r at *
  generalize maskS len offs l = m at *
  obtain ⟨⟨rn, rl, rc⟩, re⟩ := r
  obtain ⟨mf, me⟩ := m
  dsimp only at h1 h2 h3 h4
  generalize hfe : fewT len l.length = f at *
  clear hfe
  cases f with
  | false =>
    go_enter Try.func4, Try.ntmps4
    go_wp2_with (first | (go_at_call 11; (with_reducible refine (hA _).mono ?_); rintro e w' ⟨rfl, hg⟩; obtain ⟨n, os, rfl⟩ := hg.out; clear hg) | (go_at_call 15; (with_reducible refine (hF _).mono ?_); rintro e w' ⟨rfl, hg⟩; obtain ⟨n, os, rfl⟩ := hg.out; clear hg))
    go_ret
    exact ⟨rfl, (by repeat (first | exact Bl.refl _ | with_reducible apply Bl.alloc | with_reducible apply Bl.grow | with_reducible apply Bl.sd | with_reducible apply Bl.drewN | with_reducible apply Bl.drew))⟩
  | true =>
    go_enter Try.func4, Try.ntmps4
    go_upto_region 5 with (first | (go_at_call 11; (with_reducible refine (hA _).mono ?_); rintro e w' ⟨rfl, hg⟩; obtain ⟨n, os, rfl⟩ := hg.out; clear hg) | (go_at_call 15; (with_reducible refine (hF _).mono ?_); rintro e w' ⟨rfl, hg⟩; obtain ⟨n, os, rfl⟩ := hg.out; clear hg))
    generalize hW : Sort.grow _ _ = W
    have HWe := Hd.mk hW
    clear hW
    have t0 : T3 W w.heap.size len offs (.slice A l.length c) := ⟨by rw [← HWe.out]; simp [go_sem], by rw [← HWe.out]; go_simp, by rw [← HWe.out]; go_simp, by rw [← HWe.out]; go_simp, fun k => by rw [← HWe.out]; go_simp⟩
    have B0 : Bl w W := by rw [← HWe.out]; exact (by repeat (first | exact Bl.refl _ | with_reducible apply Bl.alloc | with_reducible apply Bl.grow | with_reducible apply Bl.sd | with_reducible apply Bl.drewN | with_reducible apply Bl.drew))
    have HB0 := Hd.mk B0
    have HT0 := Hd.mk t0
    clear HWe B0 t0 hA hF
    generalize w.heap.size = p2 at *
    obtain ⟨x0, x1, x2, x3, x4⟩ := HT0.out
    go_wp2_with fail
    refine (h1 _ HB0.out).mono ?_
    rintro e W1 ⟨v1, rfl, ho1, hb1⟩
    obtain ⟨A1, c1, rfl, hc1, rd1⟩ := ho1.rd
    have HB1 := Hd.mk (HB0.out.trans hb1)
    have HT1 := Hd.mk (HT0.out.bl hb1)
    have HR1 := Hd.mk rd1
    clear x0 x1 x2 x3 x4 ho1 hb1 rd1 h1 HB0 HT0
    obtain ⟨x0, x1, x2, x3, x4⟩ := HT1.out
    go_wp2_with fail
    refine (h2 _ (HB1.out.trans (by repeat (first | with_reducible exact Bl.refl _ | with_reducible apply Bl.alloc | with_reducible apply Bl.grow | with_reducible apply Bl.sd | with_reducible apply Bl.drewN | with_reducible apply Bl.drew)))).mono ?_
    rintro e W2 ⟨v2, rfl, ho2, hb2⟩
    obtain ⟨A2, c2, rfl, hc2, rd2⟩ := ho2.rd
    have ta : T3 W2 W1.heap.size rn rl (.slice A1 rc.length c1) := T3.bl ⟨by simp [go_sem], by go_simp, by go_simp, by go_simp, fun k => by go_simp⟩ hb2
    have hb2' : Bl W1 W2 := Bl.trans (by repeat (first | with_reducible exact Bl.refl _ | with_reducible apply Bl.alloc | with_reducible apply Bl.grow | with_reducible apply Bl.sd | with_reducible apply Bl.drewN | with_reducible apply Bl.drew)) hb2
    have HB2 := Hd.mk (HB1.out.trans hb2')
    have HT2 := Hd.mk (HT1.out.bl hb2')
    have HR12 := Hd.mk (HR1.out.bl hb2')
    have HR2 := Hd.mk rd2
    have HTa := Hd.mk ta
    clear x0 x1 x2 x3 x4 ho2 hb2 rd2 h2 HB1 HT1 HR1 hb2' ta
    generalize W1.heap.size = p5 at *
    obtain ⟨x0, x1, x2, x3, x4⟩ := HT2.out
    go_wp2_with fail
    refine (h3 _ (HB2.out.trans (by repeat (first | with_reducible exact Bl.refl _ | with_reducible apply Bl.alloc | with_reducible apply Bl.grow | with_reducible apply Bl.sd | with_reducible apply Bl.drewN | with_reducible apply Bl.drew)))).mono ?_
    rintro e W3 ⟨v3, rfl, ho3, hb3⟩
    obtain ⟨A3, c3, rfl, hc3, rd3⟩ := ho3.rd
    have tb : T3 W3 W2.heap.size rn rl (.slice A2 rc.length c2) := T3.bl ⟨by simp [go_sem], by go_simp, by go_simp, by go_simp, fun k => by go_simp⟩ hb3
    have hb3' : Bl W2 W3 := Bl.trans (by repeat (first | with_reducible exact Bl.refl _ | with_reducible apply Bl.alloc | with_reducible apply Bl.grow | with_reducible apply Bl.sd | with_reducible apply Bl.drewN | with_reducible apply Bl.drew)) hb3
    have HB3 := Hd.mk (HB2.out.trans hb3')
    have HT3 := Hd.mk (HT2.out.bl hb3')
    have HTa3 := Hd.mk (HTa.out.bl hb3')
    have HTb3 := Hd.mk tb
    have HR13 := Hd.mk (HR12.out.bl hb3')
    have HR23 := Hd.mk (HR2.out.bl hb3')
    have HR3 := Hd.mk rd3
    clear x0 x1 x2 x3 x4 ho3 hb3 rd3 h3 HB2 HT2 HTa HR12 HR2 hb3' tb
    generalize W2.heap.size = p7 at *
    obtain ⟨x0, x1, x2, x3, x4⟩ := HT3.out
    go_wp2_with fail
    refine (h4 _ (HB3.out.trans (by repeat (first | with_reducible exact Bl.refl _ | with_reducible apply Bl.alloc | with_reducible apply Bl.grow | with_reducible apply Bl.sd | with_reducible apply Bl.drewN | with_reducible apply Bl.drew)))).mono ?_
    rintro e W4 ⟨v4, rfl, ho4, hb4⟩
    obtain ⟨A4, c4, rfl, hc4, rd4⟩ := ho4.rd
    have HB4 := Hd.mk (HB3.out.trans hb4)
    have ta := HTa3.out.bl hb4
    have tb := HTb3.out.bl hb4
    have HR14 := Hd.mk (HR13.out.bl hb4)
    have HR24 := Hd.mk (HR23.out.bl hb4)
    have HR34 := Hd.mk (RdI.bl HR3.out hb4)
    have HR4 := Hd.mk rd4
    clear x0 x1 x2 x3 x4 ho4 hb4 rd4 h4 HB3 HT3 HTa3 HTb3 HR13 HR23 HR3
    obtain ⟨y0, y1, y2, y3, y4⟩ := ta
    obtain ⟨z0, z1, z2, z3, z4⟩ := tb
    have hS : ∀ W, Gr W4 W → _ := fun W h => same_true rn rl A1 A2 c1 c2 rc W (HR14.out.gr h) (HR24.out.gr h) hc1 hc2
    have hE : ∀ W, Gr W4 W → _ := fun W h => equal_true A3 A4 c3 c4 mf W (RdI.gr HR34.out h) (RdI.gr HR4.out h) hc3 hc4
    go_wp2_with (first | (go_at_call 20; (with_reducible refine (hS _ (by repeat (first | exact Gr.refl _ | with_reducible apply Gr.alloc | with_reducible apply Gr.grow | with_reducible apply Gr.drewN | with_reducible apply Gr.drew))).mono ?_); rintro e w' ⟨rfl, hg⟩; obtain ⟨n, os, rfl⟩ := hg.out; clear hg) | (go_at_call 21; (with_reducible refine (hE _ (by repeat (first | exact Gr.refl _ | with_reducible apply Gr.alloc | with_reducible apply Gr.grow | with_reducible apply Gr.drewN | with_reducible apply Gr.drew))).mono ?_); rintro e w' ⟨rfl, hg⟩; obtain ⟨n, os, rfl⟩ := hg.out; clear hg))
    go_ret
    exact ⟨rfl, HB4.out.trans (by repeat (first | with_reducible exact Bl.refl _ | with_reducible apply Bl.alloc | with_reducible apply Bl.grow | with_reducible apply Bl.sd | with_reducible apply Bl.drewN | with_reducible apply Bl.drew))⟩
end Go.Proofs.Ytcknakbjiklklaa.L
