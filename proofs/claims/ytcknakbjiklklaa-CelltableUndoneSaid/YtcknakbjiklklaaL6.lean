import Derived.Test.YtcknakbjiklklaaF18
import Derived.Test.YtcknakbjiklklaaF28
import Derived.Test.YtcknakbjiklklaaF35
import Derived.Test.YtcknakbjiklklaaS10
import Derived.Deep.DeepCutAuto
/- The law CelltableUndone, walked. -/
namespace Go.Proofs.Ytcknakbjiklklaa.L
open Go.RowKit Go.Sort Go.Proofs.Ytcknakbjiklklaa.B Go.Proofs.Ytcknakbjiklklaa.S Go.Proofs.Ytcknakbjiklklaa.F
set_option linter.unusedVariables false
set_option linter.unusedSimpArgs false
theorem same_true (n m : Int) (A B : Option Addr) (c d : Nat) (l : List TC) (w : World) (ha : Rd w A l) (hb : Rd w B l) (hc : l.length ≤ c) (hd : l.length ≤ d) :
    Calls Try.prog 20 #[.agg #[.int .i64 n, .int .i64 m, .slice A l.length c], .agg #[.int .i64 n, .int .i64 m, .slice B l.length d]] w fun e w' => e = .returned (.bool true) ∧ Gr w w' := by
  have := qsame n m n m A B c d l l w ha hb hc hd
  rwa [decide_eq_true ⟨rfl, rfl, rfl⟩] at this
theorem PT.out {r : Tb × Int} {w : World} {e : Ending} {w' : World} (h : PT r w e w') : ∃ (A : Option Addr) (c : Nat), e = .returned (.tuple #[.agg #[.int .i64 r.1.n, .int .i64 r.1.len, .slice A r.1.l.length c], .int .i64 r.2]) ∧ r.1.l.length ≤ c ∧ Rd w' A r.1.l ∧ Bl w w' := by
  obtain ⟨v, he, ho, hb⟩ := h
  obtain ⟨A, c, rfl, hc, hr⟩ := ho.rd
  exact ⟨A, c, he, hc, hr, hb⟩
set_option maxHeartbeats 8000000 in
set_option maxRecDepth 100000 in
theorem lawUndone (nd len : Int) (A : Option Addr) (c : Nat) (l : List TC) (x y : TC) (w : World) (hr : Rd w A l) (hc : l.length ≤ c) :
    Calls Try.prog 9 #[.agg #[.int .i64 nd, .int .i64 len, .slice A l.length c], vT x, vT y] w fun e w' => e = .returned (.bool true) ∧ Bl w w' := by
  have hm := mixed
  have hA := awake_
  have hF := fun W => qfew nd len A c l W hr.1
  have hC : ∀ W, Bl w W → _ := fun W h => tcheck nd len A c l W (hr.bl h) hc
  generalize hfe : fewT len l.length = f at *
  clear hfe
  cases f with
  | false =>
    obtain ⟨x0, x1, x2, x3, x4, x5⟩ := x
    obtain ⟨y0, y1, y2, y3, y4, y5⟩ := y
    simp only [vT]
    clear hr
    go_enter Try.func9, Try.ntmps9
    go_wp2_with (first | (go_at_call 11; (with_reducible refine (hA _).mono ?_); rintro e w' ⟨rfl, hg⟩; obtain ⟨n, os, rfl⟩ := hg.out; clear hg) | (go_at_call 12; (with_reducible refine (hF _).mono ?_); rintro e w' ⟨rfl, hg⟩; obtain ⟨n, os, rfl⟩ := hg.out; clear hg) | (go_at_call 13; (with_reducible refine (hC _ (by repeat (first | exact Bl.refl _ | with_reducible apply Bl.alloc | with_reducible apply Bl.grow | with_reducible apply Bl.sd | with_reducible apply Bl.drewN | with_reducible apply Bl.drew))).mono ?_); rintro e w' ⟨rfl, hg⟩; obtain ⟨n, os, rfl⟩ := hg.out; clear hg))
    go_ret
    exact ⟨rfl, (by repeat (first | exact Bl.refl _ | with_reducible apply Bl.alloc | with_reducible apply Bl.grow | with_reducible apply Bl.sd | with_reducible apply Bl.drewN | with_reducible apply Bl.drew))⟩
  | true =>
    by_cases hchk : checkT nd len l = 0
    · have h512 := (checkT_ok hchk).2.2.1
      have hloop : ∀ k, k < l.length → remS nd len l (nth l k) = (⟨nd, len, delT l (nth l k)⟩, 0) ∧ addS nd len (delT l (nth l k)) (nth l k) = (⟨nd, len, l⟩, 0) := fun k hk => add_rem hchk (mem_nth.2 ⟨k, hk, rfl⟩)
      have h1 : ∀ W, Bl w W → _ := fun W h => tadd nd len A c l x W (hr.bl h) hc
      have h2 : ∀ W, Bl w W → _ := fun W h => tadd nd len A c l y W (hr.bl h) hc
      have h3 : ∀ W, Bl w W → ∀ z, _ := fun W h z => trem nd len A c l z W (hr.bl h) hc
      have hadd := @add_val nd len l x
      have hrem := @rem_add nd len l x
      have hck := @add_check nd len l x
      have hAA := fun h h' => @add_add nd len l x y h h'
      have hlc := insT_len l x
      have hvd := @add_val nd len (insT l x) y
      have hvb := @add_val nd len l y
      have hvc := @add_val nd len (insT l y) x
      rw [hchk] at hC
      have HLoop := Hd.mk hloop
      have H3 := Hd.mk h3
      have HR := Hd.mk hr
      clear hloop h3 hr hchk
      obtain ⟨x0, x1, x2, x3, x4, x5⟩ := x
      obtain ⟨y0, y1, y2, y3, y4, y5⟩ := y
      have HAdd := Hd.mk hadd
      have HRem := Hd.mk hrem
      have HCk := Hd.mk hck
      have HAA := Hd.mk hAA
      have HLc := Hd.mk hlc
      have HVd := Hd.mk hvd
      have HVb := Hd.mk hvb
      have HVc := Hd.mk hvc
      clear hadd hrem hck hAA hlc hvd hvb hvc
      simp only [vT] at h1 h2 ⊢
      go_enter Try.func9, Try.ntmps9
      go_upto_region 5 with (first | (go_at_call 11; (with_reducible refine (hA _).mono ?_); rintro e w' ⟨rfl, hg⟩; obtain ⟨n, os, rfl⟩ := hg.out; clear hg) | (go_at_call 12; (with_reducible refine (hF _).mono ?_); rintro e w' ⟨rfl, hg⟩; obtain ⟨n, os, rfl⟩ := hg.out; clear hg) | (go_at_call 13; (with_reducible refine (hC _ (by repeat (first | exact Bl.refl _ | with_reducible apply Bl.alloc | with_reducible apply Bl.grow | with_reducible apply Bl.sd | with_reducible apply Bl.drewN | with_reducible apply Bl.drew))).mono ?_); rintro e w' ⟨rfl, hg⟩; obtain ⟨n, os, rfl⟩ := hg.out; clear hg))
      generalize hW : Sort.grow _ _ = W
      have HWe := Hd.mk hW
      clear hW
      have HT : Hd (T3 W w.heap.size nd len (.slice A l.length c)) := ⟨⟨by rw [← HWe.out]; simp [go_sem], by rw [← HWe.out]; go_simp, by rw [← HWe.out]; go_simp, by rw [← HWe.out]; go_simp, fun k => by rw [← HWe.out]; go_simp⟩⟩
      have HX : Hd (T6 W (w.heap.size + 1) ⟨x0, x1, x2, x3, x4, x5⟩) := ⟨⟨by rw [← HWe.out]; simp [go_sem], by rw [← HWe.out]; go_simp, by rw [← HWe.out]; go_simp, by rw [← HWe.out]; go_simp, by rw [← HWe.out]; go_simp, by rw [← HWe.out]; go_simp, by rw [← HWe.out]; go_simp⟩⟩
      have HY : Hd (T6 W (w.heap.size + 2) ⟨y0, y1, y2, y3, y4, y5⟩) := ⟨⟨by rw [← HWe.out]; simp [go_sem], by rw [← HWe.out]; go_simp, by rw [← HWe.out]; go_simp, by rw [← HWe.out]; go_simp, by rw [← HWe.out]; go_simp, by rw [← HWe.out]; go_simp, by rw [← HWe.out]; go_simp⟩⟩
      have HB : Hd (Bl w W) := ⟨by rw [← HWe.out]; exact (by repeat (first | exact Bl.refl _ | with_reducible apply Bl.alloc | with_reducible apply Bl.grow | with_reducible apply Bl.sd | with_reducible apply Bl.drewN | with_reducible apply Bl.drew))⟩
      clear HWe hA hF hC
      generalize w.heap.size + 1 = p4 at *
      generalize w.heap.size + 2 = p5 at *
      generalize w.heap.size = p3 at *
      obtain ⟨z_HT, a_HT, b_HT, c_HT, d_HT⟩ := HT.out
      obtain ⟨z_HX, a_HX, b_HX, c_HX, d_HX, e_HX, f_HX⟩ := HX.out
      dsimp only at a_HX b_HX c_HX d_HX e_HX f_HX
      go_wp2_with fail
      refine (h1 _ HB.out).mono ?_
      intro e W1 hp1
      obtain ⟨A1, c1, rfl, hc1, rd1, hb1⟩ := PT.out hp1
      clear hp1
      clear z_HT a_HT b_HT c_HT d_HT z_HX a_HX b_HX c_HX d_HX e_HX f_HX
      replace HB := Hd.mk (HB.out.trans hb1)
      replace HT := Hd.mk (HT.out.bl hb1)
      replace HX := Hd.mk (HX.out.bl hb1)
      replace HY := Hd.mk (HY.out.bl hb1)
      have HR1 := Hd.mk rd1
      clear hb1 rd1 h1
      generalize hadr : addS nd len l ⟨x0, x1, x2, x3, x4, x5⟩ = r at *
      obtain ⟨⟨rn, rl, rc⟩, re⟩ := r
      dsimp only at *
      go_upto_if 40 with fail
      generalize hV : World.alloc _ _ = V
      have HVe := Hd.mk hV
      clear hV
      have HA : Hd (T3 V W1.heap.size rn rl (.slice A1 rc.length c1)) := ⟨⟨by rw [← HVe.out]; simp [go_sem], by rw [← HVe.out]; go_simp, by rw [← HVe.out]; go_simp, by rw [← HVe.out]; go_simp, fun k => by rw [← HVe.out]; go_simp⟩⟩
      have BV : Bl W1 V := by rw [← HVe.out]; exact (by repeat (first | with_reducible exact Bl.refl _ | with_reducible apply Bl.alloc | with_reducible apply Bl.grow | with_reducible apply Bl.sd | with_reducible apply Bl.drewN | with_reducible apply Bl.drew))
      replace HB := Hd.mk (HB.out.trans BV)
      replace HT := Hd.mk (HT.out.bl BV)
      replace HX := Hd.mk (HX.out.bl BV)
      replace HY := Hd.mk (HY.out.bl BV)
      replace HR1 := Hd.mk (HR1.out.bl BV)
      clear HVe BV
      generalize W1.heap.size = q7 at *
      go_cut [] (fun wx => Hd (Bl w wx) ∧ Hd (T3 wx p3 nd len (.slice A l.length c)))
      case first =>
        by_cases he : re = 0
        · subst he
          have hv := HAdd.out (by first | trivial | rfl)
          simp only [Prod.mk.injEq, Tb.mk.injEq, and_true] at hv
          obtain ⟨rfl, rfl, rfl⟩ := hv
          generalize insT l ⟨x0, x1, x2, x3, x4, x5⟩ = lc at *
          have hrm := HRem.out (by first | trivial | rfl)
          have hck := HCk.out (by first | trivial | rfl)
          have haa := HAA.out (by first | trivial | rfl)
          have hlen : ((lc.length : Int) != (l.length : Int) + 1) = false := by have := HLc.out; simp; omega
          have HLen := Hd.mk hlen
          have HRm := Hd.mk hrm
          have HCk2 := Hd.mk hck
          have HAa := Hd.mk haa
          clear hrm hck haa hlen HRem HCk HAA HLc hadr HAdd HLoop H3 HVc
          have hcall := fun W (h : Bl V W) => trem rn rl A1 c1 lc ⟨x0, x1, x2, x3, x4, x5⟩ W (HR1.out.bl h) hc1
          simp only [vT] at hcall
          obtain ⟨z_HA, a_HA, b_HA, c_HA, d_HA⟩ := HA.out
          obtain ⟨z_HX, a_HX, b_HX, c_HX, d_HX, e_HX, f_HX⟩ := HX.out; dsimp only at a_HX b_HX c_HX d_HX e_HX f_HX
          go_wp2_with fail
          refine (hcall _ (by repeat (first | with_reducible exact Bl.refl _ | with_reducible apply Bl.alloc | with_reducible apply Bl.grow | with_reducible apply Bl.sd | with_reducible apply Bl.drewN | with_reducible apply Bl.drew))).mono ?_
          intro e W2 hp
          rw [HRm.out] at hp
          obtain ⟨A2, c2, rfl, hc2, rd2, hb2⟩ := PT.out hp
          dsimp only at hc2 rd2 ⊢
          have hb' : Bl V W2 := Bl.trans (by repeat (first | with_reducible exact Bl.refl _ | with_reducible apply Bl.alloc | with_reducible apply Bl.grow | with_reducible apply Bl.sd | with_reducible apply Bl.drewN | with_reducible apply Bl.drew)) hb2
          clear hp hb2 z_HA a_HA b_HA c_HA d_HA z_HX a_HX b_HX c_HX d_HX e_HX f_HX
          replace HB := Hd.mk (HB.out.trans hb')
          replace HT := Hd.mk (HT.out.bl hb')
          replace HX := Hd.mk (HX.out.bl hb')
          replace HY := Hd.mk (HY.out.bl hb')
          replace HA := Hd.mk (HA.out.bl hb')
          replace HR1 := Hd.mk (HR1.out.bl hb')
          have HR2 := Hd.mk rd2
          clear hb' rd2
          clear hcall
          have hS := fun W (h : Bl W2 W) => same_true rn rl A2 A c2 c l W (HR2.out.bl h) (HR.out.bl (HB.out.trans h)) hc2 hc
          have hK := fun W (h : Bl W2 W) => tcheck rn rl A1 c1 lc W (HR1.out.bl h) hc1
          rw [HCk2.out] at hK
          have hlen := HLen.out
          have hcall := fun W (h : Bl W2 W) => tadd rn rl A1 c1 lc ⟨y0, y1, y2, y3, y4, y5⟩ W (HR1.out.bl h) hc1
          simp only [vT] at hcall
          by_cases hgz : (addS rn rl lc ⟨y0, y1, y2, y3, y4, y5⟩).2 = 0
          · obtain ⟨hdz, hbz, heq⟩ := HAa.out hgz
            have hvd := HVd.out hgz
            have hvb := HVb.out hdz
            have hvc := @add_val rn rl (insT l ⟨y0, y1, y2, y3, y4, y5⟩) ⟨x0, x1, x2, x3, x4, x5⟩ hbz
            rw [← heq] at hvc
            rw [hvd] at hcall
            rw [hvb] at h2
            generalize insT l ⟨y0, y1, y2, y3, y4, y5⟩ = ld at *
            generalize insT lc ⟨y0, y1, y2, y3, y4, y5⟩ = lcd at *
            have HVc2 := Hd.mk hvc
            clear hdz hbz heq hvd hvb hvc hgz HVd HVb HAa
            obtain ⟨z_HT, a_HT, b_HT, c_HT, d_HT⟩ := HT.out
            obtain ⟨z_HA, a_HA, b_HA, c_HA, d_HA⟩ := HA.out
            obtain ⟨z_HY, a_HY, b_HY, c_HY, d_HY, e_HY, f_HY⟩ := HY.out; dsimp only at a_HY b_HY c_HY d_HY e_HY f_HY
            go_wp2_with (first | (go_at_call 20; (with_reducible refine (hS _ (by repeat (first | with_reducible exact Bl.refl _ | with_reducible apply Bl.alloc | with_reducible apply Bl.grow | with_reducible apply Bl.sd | with_reducible apply Bl.drewN | with_reducible apply Bl.drew))).mono ?_); rintro e w' ⟨rfl, hg⟩; obtain ⟨n, os, rfl⟩ := hg.out; clear hg) | (go_at_call 13; (with_reducible refine (hK _ (by repeat (first | with_reducible exact Bl.refl _ | with_reducible apply Bl.alloc | with_reducible apply Bl.grow | with_reducible apply Bl.sd | with_reducible apply Bl.drewN | with_reducible apply Bl.drew))).mono ?_); rintro e w' ⟨rfl, hg⟩; obtain ⟨n, os, rfl⟩ := hg.out; clear hg))
            refine (hcall _ (by repeat (first | with_reducible exact Bl.refl _ | with_reducible apply Bl.alloc | with_reducible apply Bl.grow | with_reducible apply Bl.sd | with_reducible apply Bl.drewN | with_reducible apply Bl.drew))).mono ?_
            intro e W3 hp
            obtain ⟨A3, c3, rfl, hc3, rd3, hb3⟩ := PT.out hp
            dsimp only at hc3 rd3 ⊢
            have hb' : Bl W2 W3 := Bl.trans (by repeat (first | with_reducible exact Bl.refl _ | with_reducible apply Bl.alloc | with_reducible apply Bl.grow | with_reducible apply Bl.sd | with_reducible apply Bl.drewN | with_reducible apply Bl.drew)) hb3
            clear hp hb3 z_HT a_HT b_HT c_HT d_HT z_HA a_HA b_HA c_HA d_HA z_HY a_HY b_HY c_HY d_HY e_HY f_HY
            replace HB := Hd.mk (HB.out.trans hb')
            replace HT := Hd.mk (HT.out.bl hb')
            replace HX := Hd.mk (HX.out.bl hb')
            replace HY := Hd.mk (HY.out.bl hb')
            replace HA := Hd.mk (HA.out.bl hb')
            replace HR1 := Hd.mk (HR1.out.bl hb')
            have HR3 := Hd.mk rd3
            clear hb' rd3
            clear hcall hS hK hlen
            obtain ⟨z_HT, a_HT, b_HT, c_HT, d_HT⟩ := HT.out
            obtain ⟨z_HY, a_HY, b_HY, c_HY, d_HY, e_HY, f_HY⟩ := HY.out; dsimp only at a_HY b_HY c_HY d_HY e_HY f_HY
            go_wp2_with fail
            refine (h2 _ (HB.out.trans (by repeat (first | with_reducible exact Bl.refl _ | with_reducible apply Bl.alloc | with_reducible apply Bl.grow | with_reducible apply Bl.sd | with_reducible apply Bl.drewN | with_reducible apply Bl.drew)))).mono ?_
            intro e W4 hp
            obtain ⟨A4, c4, rfl, hc4, rd4, hb4⟩ := PT.out hp
            dsimp only at hc4 rd4 ⊢
            have tn : T3 W4 W3.heap.size rn rl (.slice A3 lcd.length c3) := T3.bl ⟨by simp [go_sem], by go_simp, by go_simp, by go_simp, fun k => by go_simp⟩ hb4
            have hb' : Bl W3 W4 := Bl.trans (by repeat (first | with_reducible exact Bl.refl _ | with_reducible apply Bl.alloc | with_reducible apply Bl.grow | with_reducible apply Bl.sd | with_reducible apply Bl.drewN | with_reducible apply Bl.drew)) hb4
            clear hp hb4 z_HT a_HT b_HT c_HT d_HT z_HY a_HY b_HY c_HY d_HY e_HY f_HY
            replace HB := Hd.mk (HB.out.trans hb')
            replace HT := Hd.mk (HT.out.bl hb')
            replace HX := Hd.mk (HX.out.bl hb')
            replace HY := Hd.mk (HY.out.bl hb')
            replace HR3 := Hd.mk (HR3.out.bl hb')
            have HG := Hd.mk tn
            have HR4 := Hd.mk rd4
            clear hb' rd4 tn
            generalize W3.heap.size = q3 at *
            have hcall := fun W (h : Bl W4 W) => tadd rn rl A4 c4 ld ⟨x0, x1, x2, x3, x4, x5⟩ W (HR4.out.bl h) hc4
            simp only [vT] at hcall
            rw [HVc2.out] at hcall
            obtain ⟨z_HX, a_HX, b_HX, c_HX, d_HX, e_HX, f_HX⟩ := HX.out; dsimp only at a_HX b_HX c_HX d_HX e_HX f_HX
            go_wp2_with fail
            refine (hcall _ (by repeat (first | with_reducible exact Bl.refl _ | with_reducible apply Bl.alloc | with_reducible apply Bl.grow | with_reducible apply Bl.sd | with_reducible apply Bl.drewN | with_reducible apply Bl.drew))).mono ?_
            intro e W5 hp
            obtain ⟨A5, c5, rfl, hc5, rd5, hb5⟩ := PT.out hp
            dsimp only at hc5 rd5 ⊢
            have hb' : Bl W4 W5 := Bl.trans (by repeat (first | with_reducible exact Bl.refl _ | with_reducible apply Bl.alloc | with_reducible apply Bl.grow | with_reducible apply Bl.sd | with_reducible apply Bl.drewN | with_reducible apply Bl.drew)) hb5
            clear hp hb5 z_HX a_HX b_HX c_HX d_HX e_HX f_HX
            replace HB := Hd.mk (HB.out.trans hb')
            replace HT := Hd.mk (HT.out.bl hb')
            replace HX := Hd.mk (HX.out.bl hb')
            replace HG := Hd.mk (HG.out.bl hb')
            replace HR3 := Hd.mk (HR3.out.bl hb')
            have HR5 := Hd.mk rd5
            clear hb' rd5
            clear hcall
            have hS := fun W (h : Bl W5 W) => same_true rn rl A3 A5 c3 c5 lcd W (HR3.out.bl h) (HR5.out.bl h) hc3 hc5
            obtain ⟨z_HG, a_HG, b_HG, c_HG, d_HG⟩ := HG.out
            go_wp2_with (first | (go_at_call 20; (with_reducible refine (hS _ (by repeat (first | with_reducible exact Bl.refl _ | with_reducible apply Bl.alloc | with_reducible apply Bl.grow | with_reducible apply Bl.sd | with_reducible apply Bl.drewN | with_reducible apply Bl.drew))).mono ?_); rintro e w' ⟨rfl, hg⟩; obtain ⟨n, os, rfl⟩ := hg.out; clear hg))
            go_meet
            exact ⟨⟨HB.out.trans (by repeat (first | with_reducible exact Bl.refl _ | with_reducible apply Bl.alloc | with_reducible apply Bl.grow | with_reducible apply Bl.sd | with_reducible apply Bl.drewN | with_reducible apply Bl.drew))⟩, ⟨HT.out.bl (by repeat (first | with_reducible exact Bl.refl _ | with_reducible apply Bl.alloc | with_reducible apply Bl.grow | with_reducible apply Bl.sd | with_reducible apply Bl.drewN | with_reducible apply Bl.drew))⟩⟩
          · generalize addS rn rl lc ⟨y0, y1, y2, y3, y4, y5⟩ = g at *
            obtain ⟨⟨gn, gl, gc⟩, ge⟩ := g
            generalize addS rn rl l ⟨y0, y1, y2, y3, y4, y5⟩ = hh at *
            obtain ⟨⟨hn, hl', hc'⟩, he'⟩ := hh
            have hgb : (ge == 0) = false := by simpa using hgz
            dsimp only at *
            clear HVd HVb HAa hgz
            obtain ⟨z_HT, a_HT, b_HT, c_HT, d_HT⟩ := HT.out
            obtain ⟨z_HA, a_HA, b_HA, c_HA, d_HA⟩ := HA.out
            obtain ⟨z_HY, a_HY, b_HY, c_HY, d_HY, e_HY, f_HY⟩ := HY.out; dsimp only at a_HY b_HY c_HY d_HY e_HY f_HY
            go_wp2_with (first | (go_at_call 20; (with_reducible refine (hS _ (by repeat (first | with_reducible exact Bl.refl _ | with_reducible apply Bl.alloc | with_reducible apply Bl.grow | with_reducible apply Bl.sd | with_reducible apply Bl.drewN | with_reducible apply Bl.drew))).mono ?_); rintro e w' ⟨rfl, hg⟩; obtain ⟨n, os, rfl⟩ := hg.out; clear hg) | (go_at_call 13; (with_reducible refine (hK _ (by repeat (first | with_reducible exact Bl.refl _ | with_reducible apply Bl.alloc | with_reducible apply Bl.grow | with_reducible apply Bl.sd | with_reducible apply Bl.drewN | with_reducible apply Bl.drew))).mono ?_); rintro e w' ⟨rfl, hg⟩; obtain ⟨n, os, rfl⟩ := hg.out; clear hg))
            refine (hcall _ (by repeat (first | with_reducible exact Bl.refl _ | with_reducible apply Bl.alloc | with_reducible apply Bl.grow | with_reducible apply Bl.sd | with_reducible apply Bl.drewN | with_reducible apply Bl.drew))).mono ?_
            intro e W3 hp
            obtain ⟨A3, c3, rfl, hc3, rd3, hb3⟩ := PT.out hp
            dsimp only at hc3 rd3 ⊢
            have hb' : Bl W2 W3 := Bl.trans (by repeat (first | with_reducible exact Bl.refl _ | with_reducible apply Bl.alloc | with_reducible apply Bl.grow | with_reducible apply Bl.sd | with_reducible apply Bl.drewN | with_reducible apply Bl.drew)) hb3
            clear hp hb3 z_HT a_HT b_HT c_HT d_HT z_HA a_HA b_HA c_HA d_HA z_HY a_HY b_HY c_HY d_HY e_HY f_HY
            replace HB := Hd.mk (HB.out.trans hb')
            replace HT := Hd.mk (HT.out.bl hb')
            replace HX := Hd.mk (HX.out.bl hb')
            replace HY := Hd.mk (HY.out.bl hb')
            replace HA := Hd.mk (HA.out.bl hb')
            replace HR1 := Hd.mk (HR1.out.bl hb')
            have HR3 := Hd.mk rd3
            clear hb' rd3
            clear hcall hS hK hlen
            obtain ⟨z_HT, a_HT, b_HT, c_HT, d_HT⟩ := HT.out
            obtain ⟨z_HY, a_HY, b_HY, c_HY, d_HY, e_HY, f_HY⟩ := HY.out; dsimp only at a_HY b_HY c_HY d_HY e_HY f_HY
            go_wp2_with fail
            refine (h2 _ (HB.out.trans (by repeat (first | with_reducible exact Bl.refl _ | with_reducible apply Bl.alloc | with_reducible apply Bl.grow | with_reducible apply Bl.sd | with_reducible apply Bl.drewN | with_reducible apply Bl.drew)))).mono ?_
            intro e W4 hp
            obtain ⟨A4, c4, rfl, hc4, rd4, hb4⟩ := PT.out hp
            dsimp only at hc4 rd4 ⊢
            have hb' : Bl W3 W4 := Bl.trans (by repeat (first | with_reducible exact Bl.refl _ | with_reducible apply Bl.alloc | with_reducible apply Bl.grow | with_reducible apply Bl.sd | with_reducible apply Bl.drewN | with_reducible apply Bl.drew)) hb4
            clear hp hb4 z_HT a_HT b_HT c_HT d_HT z_HY a_HY b_HY c_HY d_HY e_HY f_HY
            replace HB := Hd.mk (HB.out.trans hb')
            replace HT := Hd.mk (HT.out.bl hb')
            replace HX := Hd.mk (HX.out.bl hb')
            replace HY := Hd.mk (HY.out.bl hb')
            have HR4 := Hd.mk rd4
            clear hb' rd4
            go_wp2
            go_meet
            exact ⟨⟨HB.out.trans (by repeat (first | with_reducible exact Bl.refl _ | with_reducible apply Bl.alloc | with_reducible apply Bl.grow | with_reducible apply Bl.sd | with_reducible apply Bl.drewN | with_reducible apply Bl.drew))⟩, ⟨HT.out.bl (by repeat (first | with_reducible exact Bl.refl _ | with_reducible apply Bl.alloc | with_reducible apply Bl.grow | with_reducible apply Bl.sd | with_reducible apply Bl.drewN | with_reducible apply Bl.drew))⟩⟩
        · have heb : (re == 0) = false := by simp [he]
          go_wp2
          go_meet
          exact ⟨HB, HT⟩
      case rest =>
        obtain ⟨HBc, HTc⟩ := hcut
        have hl := HR.out.1
        clear HAdd HRem HCk HAA HLc HVd HVb HVc hadr HR1 HA HX HY h2
        obtain ⟨z_HT, a_HT, b_HT, c_HT, d_HT⟩ := HTc.out
        go_upto_region 17 with fail
        go_loopg [18, 19, 20, 21, 22, 105] l.length (fun gg s18 s19 s20 s21 s22 s105 wr => ∃ k : Nat, k ≤ l.length ∧ l.length - k ≤ gg ∧ s105 = .int .i64 k ∧ Hd (Bl wc wr))
        case atStart => exact ⟨0, Nat.zero_le _, by omega, rfl, ⟨Bl.refl _⟩⟩
        case round =>
          obtain ⟨k, hk, hg, rfl, GW⟩ := hrel
          clear z_HT a_HT b_HT c_HT d_HT
          obtain ⟨z_HT, a_HT, b_HT, c_HT, d_HT⟩ := HTc.out.bl GW.out
          by_cases hlt : k < l.length
          · obtain ⟨b, off, rfl, hb, hcell⟩ := (HR.out.bl (HBc.out.trans GW.out)).2 (by omega)
            obtain ⟨k0, k1, k2, k3, k4, k5⟩ := hcell k hlt
            have hltz : (k : Int) < (l.length : Int) := by omega
            have hkz : (0 : Int) ≤ (k : Int) := by omega
            obtain ⟨hrm, had⟩ := HLoop.out k hlt
            have h3w := fun W h => H3.out W h (nth l k)
            have hBw := Hd.mk (HBc.out.trans GW.out)
            clear hcell
            generalize nth l k = x at *
            obtain ⟨u0, u1, u2, u3, u4, u5⟩ := x
            simp only [vT] at h3w
            dsimp only at *
            have HRm := Hd.mk hrm
            have HAd := Hd.mk had
            clear hrm had
            generalize delT l ⟨u0, u1, u2, u3, u4, u5⟩ = dl at *
            go_wp2_with fail
            refine (h3w _ (hBw.out.trans (by repeat (first | with_reducible exact Bl.refl _ | with_reducible apply Bl.alloc | with_reducible apply Bl.grow | with_reducible apply Bl.sd | with_reducible apply Bl.drewN | with_reducible apply Bl.drew)))).mono ?_
            intro e Y1 hp
            rw [HRm.out] at hp
            obtain ⟨A1, c1, rfl, hc1, rd1, hb1⟩ := PT.out hp
            dsimp only at hc1 rd1 ⊢
            have tx : T6 Y1 wr.heap.size ⟨u0, u1, u2, u3, u4, u5⟩ := T6.bl ⟨by simp [go_sem], by go_simp, by go_simp, by go_simp, by go_simp, by go_simp, by go_simp⟩ hb1
            have hb1' : Bl wr Y1 := Bl.trans (by repeat (first | with_reducible exact Bl.refl _ | with_reducible apply Bl.alloc | with_reducible apply Bl.grow | with_reducible apply Bl.sd | with_reducible apply Bl.drewN | with_reducible apply Bl.drew)) hb1
            have HB1 := Hd.mk (GW.out.trans hb1')
            have HX1 := Hd.mk tx
            have hadd := fun W (h : Bl Y1 W) => tadd nd len A1 c1 dl ⟨u0, u1, u2, u3, u4, u5⟩ W (rd1.bl h) hc1
            rw [HAd.out] at hadd
            simp only [vT] at hadd
            clear hp hb1 hb1' tx rd1 z_HT a_HT b_HT c_HT d_HT k0 k1 k2 k3 k4 k5 hb h3w
            generalize wr.heap.size = q18 at *
            obtain ⟨z_HT, a_HT, b_HT, c_HT, d_HT⟩ := HTc.out.bl HB1.out
            obtain ⟨z_HX, a_HX, b_HX, c_HX, d_HX, e_HX, f_HX⟩ := HX1.out
            dsimp only at a_HX b_HX c_HX d_HX e_HX f_HX
            go_wp2_with fail
            refine (hadd _ (by repeat (first | with_reducible exact Bl.refl _ | with_reducible apply Bl.alloc | with_reducible apply Bl.grow | with_reducible apply Bl.sd | with_reducible apply Bl.drewN | with_reducible apply Bl.drew))).mono ?_
            intro e Y2 hp
            obtain ⟨A2, c2, rfl, hc2, rd2, hb2⟩ := PT.out hp
            dsimp only at hc2 rd2 ⊢
            have hb2' : Bl Y1 Y2 := Bl.trans (by repeat (first | with_reducible exact Bl.refl _ | with_reducible apply Bl.alloc | with_reducible apply Bl.grow | with_reducible apply Bl.sd | with_reducible apply Bl.drewN | with_reducible apply Bl.drew)) hb2
            have HB2 := Hd.mk (HB1.out.trans hb2')
            have hS := fun W (h : Bl Y2 W) => same_true nd len A2 (some ⟨b, off, none⟩) c2 c l W (rd2.bl h) (HR.out.bl (HBc.out.trans (HB2.out.trans h))) hc2 hc
            clear hp hb2 hb2' rd2 z_HT a_HT b_HT c_HT d_HT z_HX a_HX b_HX c_HX d_HX e_HX f_HX hadd
            obtain ⟨z_HT, a_HT, b_HT, c_HT, d_HT⟩ := HTc.out.bl HB2.out
            go_wp2_with (first | (go_at_call 20; (with_reducible refine (hS _ (by repeat (first | with_reducible exact Bl.refl _ | with_reducible apply Bl.alloc | with_reducible apply Bl.grow | with_reducible apply Bl.sd | with_reducible apply Bl.drewN | with_reducible apply Bl.drew))).mono ?_); rintro e w' ⟨rfl, hg⟩; obtain ⟨n, os, rfl⟩ := hg.out; clear hg))
            go_roundg (l.length - (k + 1))
            case measure => omega
            case rel => exact ⟨k + 1, by omega, by omega, by go_num, ⟨HB2.out.trans (by repeat (first | with_reducible exact Bl.refl _ | with_reducible apply Bl.alloc | with_reducible apply Bl.grow | with_reducible apply Bl.sd | with_reducible apply Bl.drewN | with_reducible apply Bl.drew))⟩⟩
          · obtain rfl : k = l.length := by omega
            have hltz : ¬ ((l.length : Int) < (l.length : Int)) := by omega
            go_wp2
            go_ret
            exact ⟨rfl, HBc.out.trans (GW.out.trans (by repeat (first | with_reducible exact Bl.refl _ | with_reducible apply Bl.alloc | with_reducible apply Bl.grow | with_reducible apply Bl.sd | with_reducible apply Bl.drewN | with_reducible apply Bl.drew)))⟩
    · clear hr
      generalize checkT nd len l = q at *
      have hqb : (q != 0) = true := by simp [hchk]
      obtain ⟨x0, x1, x2, x3, x4, x5⟩ := x
      obtain ⟨y0, y1, y2, y3, y4, y5⟩ := y
      simp only [vT]
      go_enter Try.func9, Try.ntmps9
      go_wp2_with (first | (go_at_call 11; (with_reducible refine (hA _).mono ?_); rintro e w' ⟨rfl, hg⟩; obtain ⟨n, os, rfl⟩ := hg.out; clear hg) | (go_at_call 12; (with_reducible refine (hF _).mono ?_); rintro e w' ⟨rfl, hg⟩; obtain ⟨n, os, rfl⟩ := hg.out; clear hg) | (go_at_call 13; (with_reducible refine (hC _ (by repeat (first | exact Bl.refl _ | with_reducible apply Bl.alloc | with_reducible apply Bl.grow | with_reducible apply Bl.sd | with_reducible apply Bl.drewN | with_reducible apply Bl.drew))).mono ?_); rintro e w' ⟨rfl, hg⟩; obtain ⟨n, os, rfl⟩ := hg.out; clear hg))
      go_ret
      exact ⟨rfl, (by repeat (first | exact Bl.refl _ | with_reducible apply Bl.alloc | with_reducible apply Bl.grow | with_reducible apply Bl.sd | with_reducible apply Bl.drewN | with_reducible apply Bl.drew))⟩
end Go.Proofs.Ytcknakbjiklklaa.L
