import Derived.Test.YtcknakbjiklklaaF7
import Derived.Test.YtcknakbjiklklaaF8
import Derived.Test.YtcknakbjiklklaaF5
import Derived.Test.YtcknakbjiklklaaH1
import Derived.Test.YtcknakbjiklklaaS9
/- celltable.Add. -/
namespace Go.Proofs.Ytcknakbjiklklaa.F
open Go.RowKit Go.Sort Go.Proofs.Ytcknakbjiklklaa.B Go.Proofs.Ytcknakbjiklklaa.S
set_option linter.unusedVariables false
set_option linter.unusedSimpArgs false
/-- A table and an error are returned; the table's cells are the call's own. -/
def PT (r : Tb × Int) (w : World) (e : Ending) (w' : World) : Prop :=
  ∃ v, e = .returned (.tuple #[.agg #[.int .i64 r.1.n, .int .i64 r.1.len, v], .int .i64 r.2]) ∧ Ow w' w.heap.size v r.1.l ∧ Bl w w'
theorem PT.nil {n : Int} {w w' : World} (h : Bl w w') : PT (⟨0, 0, []⟩, n) w (.returned (.tuple #[.agg #[.int .i64 0, .int .i64 0, .slice none 0 0], .int .i64 n])) w' := ⟨_, rfl, Ow.nil _ _, h⟩
set_option maxHeartbeats 4000000 in
theorem tadd_early (nd len : Int) (A : Option Addr) (c : Nat) (l : List TC) (x : TC) (w : World) (hr : Rd w A l) (hc : l.length ≤ c) (hh : ¬ (checkT nd len l = 0 ∧ formS x nd len = 0 ∧ foundT l x = false ∧ l.length ≠ 512)) :
    Calls Try.prog 37 #[.agg #[.int .i64 nd, .int .i64 len, .slice A l.length c], vT x] w (PT (addS nd len l x) w) := by
  have hC : ∀ W, Gr w W → _ := fun W h => tcheck nd len A c l W (hr.gr h) hc
  obtain ⟨x0, x1, x2, x3, x4, x5⟩ := x
  simp only [vT]
  by_cases h1 : checkT nd len l = 0
  · have hFm := cform x0 x1 x2 x4 x5 nd len x3
    obtain ⟨_, _, h512, _, hso⟩ := checkT_ok h1
    by_cases h2 : formS ⟨x0, x1, x2, x3, x4, x5⟩ nd len = 0
    · have hB : ∀ W, Gr w W → _ := fun W h => tbsf A c l ⟨x0, x1, x2, x3, x4, x5⟩ W (hr.gr h) hc hso h512
      simp only [vT] at hB
      cases h3 : foundT l ⟨x0, x1, x2, x3, x4, x5⟩ with
      | true =>
        have hs : addS nd len l ⟨x0, x1, x2, x3, x4, x5⟩ = (⟨0, 0, []⟩, 16) := by unfold addS; rw [if_neg (by simp [h1]), if_neg (by simp [h2]), if_pos h3]
        rw [hs]
        rw [h1] at hC
        rw [h2] at hFm
        rw [h3] at hB
        clear hr hs hh h1 h2 h3 hso
        go_enter Try.func37, Try.ntmps37
        go_wp2_with (first | (go_at_call 13; (with_reducible refine (hC _ (by repeat (first | exact Gr.refl _ | with_reducible apply Gr.alloc | with_reducible apply Gr.grow | with_reducible apply Gr.drewN | with_reducible apply Gr.drew))).mono ?_); rintro e w' ⟨rfl, hg⟩; obtain ⟨n, os, rfl⟩ := hg.out; clear hg) | (go_at_call 44; (with_reducible refine (hFm _).mono ?_); rintro e w' ⟨rfl, hg⟩; obtain ⟨n, os, rfl⟩ := hg.out; clear hg) | (go_at_call 49; (with_reducible refine (hB _ (by repeat (first | exact Gr.refl _ | with_reducible apply Gr.alloc | with_reducible apply Gr.grow | with_reducible apply Gr.drewN | with_reducible apply Gr.drew))).mono ?_); rintro e w' ⟨rfl, hg⟩; obtain ⟨n, os, rfl⟩ := hg.out; clear hg))
        refine ⟨rfl, _, by simp [results, Try.results37, go_sem]; (repeat' first | rfl | apply And.intro), PT.nil (by repeat (first | exact Bl.refl _ | with_reducible apply Bl.alloc | with_reducible apply Bl.grow | with_reducible apply Bl.sd | with_reducible apply Bl.drewN | with_reducible apply Bl.drew))⟩
      | false =>
        have h4 : l.length = 512 := by
          by_cases h4 : l.length = 512
          · exact h4
          · exact absurd ⟨h1, h2, h3, h4⟩ hh
        have hs : addS nd len l ⟨x0, x1, x2, x3, x4, x5⟩ = (⟨0, 0, []⟩, 8) := by unfold addS; rw [if_neg (by simp [h1]), if_neg (by simp [h2]), if_neg (by simp [h3]), if_pos h4]
        rw [hs]
        rw [h1] at hC
        rw [h2] at hFm
        rw [h3] at hB
        rw [h4] at hC hB ⊢
        clear hr hs hh h1 h2 h3 hso
        go_enter Try.func37, Try.ntmps37
        go_wp2_with (first | (go_at_call 13; (with_reducible refine (hC _ (by repeat (first | exact Gr.refl _ | with_reducible apply Gr.alloc | with_reducible apply Gr.grow | with_reducible apply Gr.drewN | with_reducible apply Gr.drew))).mono ?_); rintro e w' ⟨rfl, hg⟩; obtain ⟨n, os, rfl⟩ := hg.out; clear hg) | (go_at_call 44; (with_reducible refine (hFm _).mono ?_); rintro e w' ⟨rfl, hg⟩; obtain ⟨n, os, rfl⟩ := hg.out; clear hg) | (go_at_call 49; (with_reducible refine (hB _ (by repeat (first | exact Gr.refl _ | with_reducible apply Gr.alloc | with_reducible apply Gr.grow | with_reducible apply Gr.drewN | with_reducible apply Gr.drew))).mono ?_); rintro e w' ⟨rfl, hg⟩; obtain ⟨n, os, rfl⟩ := hg.out; clear hg))
        refine ⟨rfl, _, by simp [results, Try.results37, go_sem]; (repeat' first | rfl | apply And.intro), PT.nil (by repeat (first | exact Bl.refl _ | with_reducible apply Bl.alloc | with_reducible apply Bl.grow | with_reducible apply Bl.sd | with_reducible apply Bl.drewN | with_reducible apply Bl.drew))⟩
    · have hs : addS nd len l ⟨x0, x1, x2, x3, x4, x5⟩ = (⟨0, 0, []⟩, formS ⟨x0, x1, x2, x3, x4, x5⟩ nd len) := by unfold addS; rw [if_neg (by simp [h1]), if_pos h2]
      rw [hs]
      rw [h1] at hC
      clear hr hs hh h1 hso
      generalize formS ⟨x0, x1, x2, x3, x4, x5⟩ nd len = q at *
      have h2' : (q != 0) = true := by simp [h2]
      go_enter Try.func37, Try.ntmps37
      go_wp2_with (first | (go_at_call 13; (with_reducible refine (hC _ (by repeat (first | exact Gr.refl _ | with_reducible apply Gr.alloc | with_reducible apply Gr.grow | with_reducible apply Gr.drewN | with_reducible apply Gr.drew))).mono ?_); rintro e w' ⟨rfl, hg⟩; obtain ⟨n, os, rfl⟩ := hg.out; clear hg) | (go_at_call 44; (with_reducible refine (hFm _).mono ?_); rintro e w' ⟨rfl, hg⟩; obtain ⟨n, os, rfl⟩ := hg.out; clear hg))
      refine ⟨rfl, _, by simp [results, Try.results37, go_sem]; (repeat' first | rfl | apply And.intro), PT.nil (by repeat (first | exact Bl.refl _ | with_reducible apply Bl.alloc | with_reducible apply Bl.grow | with_reducible apply Bl.sd | with_reducible apply Bl.drewN | with_reducible apply Bl.drew))⟩
  · have hs : addS nd len l ⟨x0, x1, x2, x3, x4, x5⟩ = (⟨0, 0, []⟩, 1) := by unfold addS; rw [if_pos h1]
    rw [hs]
    clear hr hs hh
    generalize checkT nd len l = q at *
    have h2' : (q != 0) = true := by simp [h1]
    go_enter Try.func37, Try.ntmps37
    go_wp2_with (first | (go_at_call 13; (with_reducible refine (hC _ (by repeat (first | exact Gr.refl _ | with_reducible apply Gr.alloc | with_reducible apply Gr.grow | with_reducible apply Gr.drewN | with_reducible apply Gr.drew))).mono ?_); rintro e w' ⟨rfl, hg⟩; obtain ⟨n, os, rfl⟩ := hg.out; clear hg))
    refine ⟨rfl, _, by simp [results, Try.results37, go_sem]; (repeat' first | rfl | apply And.intro), PT.nil (by repeat (first | exact Bl.refl _ | with_reducible apply Bl.alloc | with_reducible apply Bl.grow | with_reducible apply Bl.sd | with_reducible apply Bl.drewN | with_reducible apply Bl.drew))⟩
set_option maxHeartbeats 4000000 in
set_option maxRecDepth 100000 in
theorem tadd_main (nd len : Int) (A : Option Addr) (c : Nat) (l : List TC) (x : TC) (w : World) (hr : Rd w A l) (hc : l.length ≤ c) (h1 : checkT nd len l = 0) (h2 : formS x nd len = 0) (h3 : foundT l x = false) (h4 : l.length ≠ 512) :
    Calls Try.prog 37 #[.agg #[.int .i64 nd, .int .i64 len, .slice A l.length c], vT x] w (PT (addS nd len l x) w) := by
  have hm := mixed
  have hC : ∀ W, Gr w W → _ := fun W h => tcheck nd len A c l W (hr.gr h) hc
  obtain ⟨x0, x1, x2, x3, x4, x5⟩ := x
  simp only [vT]
  obtain ⟨_, _, h512, _, hso⟩ := checkT_ok h1
  have hFm := cform x0 x1 x2 x4 x5 nd len x3
  have hB : ∀ W, Gr w W → _ := fun W h => tbsf A c l ⟨x0, x1, x2, x3, x4, x5⟩ W (hr.gr h) hc hso h512
  simp only [vT] at hB
  have hs : addS nd len l ⟨x0, x1, x2, x3, x4, x5⟩ = (⟨nd, len, insT l ⟨x0, x1, x2, x3, x4, x5⟩⟩, 0) := by unfold addS; rw [if_neg (by simp [h1]), if_neg (by simp [h2]), if_neg (by simp [h3]), if_neg h4]
  rw [hs]
  rw [h1] at hC
  rw [h2] at hFm
  rw [h3] at hB
  have hL : ∀ W, Bl w W → _ := fun W h => tclone A c l W (hr.bl h) hc (by omega)
  have hins : insT l ⟨x0, x1, x2, x3, x4, x5⟩ = l.take (lowT l ⟨x0, x1, x2, x3, x4, x5⟩) ++ ⟨x0, x1, x2, x3, x4, x5⟩ :: l.drop (lowT l ⟨x0, x1, x2, x3, x4, x5⟩) := rfl
  have hle := low_le l ⟨x0, x1, x2, x3, x4, x5⟩
  have HIns := Hd.mk hins
  have h4z : ¬ ((l.length : Int) = 512) := by omega
  have h4b : ((l.length : Int) == 512) = false := by simp; omega
  clear hr hs h1 h2 h3 hso hins
  generalize insT l ⟨x0, x1, x2, x3, x4, x5⟩ = l2 at *
  generalize lowT l ⟨x0, x1, x2, x3, x4, x5⟩ = ix at *
  go_enter Try.func37, Try.ntmps37
  go_upto_region 11 with (first | (go_at_call 13; (with_reducible refine (hC _ (by repeat (first | exact Gr.refl _ | with_reducible apply Gr.alloc | with_reducible apply Gr.grow | with_reducible apply Gr.drewN | with_reducible apply Gr.drew))).mono ?_); rintro e w' ⟨rfl, hg⟩; obtain ⟨n, os, rfl⟩ := hg.out; clear hg) | (go_at_call 44; (with_reducible refine (hFm _).mono ?_); rintro e w' ⟨rfl, hg⟩; obtain ⟨n, os, rfl⟩ := hg.out; clear hg) | (go_at_call 49; (with_reducible refine (hB _ (by repeat (first | exact Gr.refl _ | with_reducible apply Gr.alloc | with_reducible apply Gr.grow | with_reducible apply Gr.drewN | with_reducible apply Gr.drew))).mono ?_); rintro e w' ⟨rfl, hg⟩; obtain ⟨n, os, rfl⟩ := hg.out; clear hg))
  generalize hX : Sort.grow _ _ = X
  have HXe := Hd.mk hX
  clear hX
  have t0 : T3 X w.heap.size nd len (.slice A l.length c) := ⟨by rw [← HXe.out]; simp [go_sem], by rw [← HXe.out]; go_simp, by rw [← HXe.out]; go_simp, by rw [← HXe.out]; go_simp, fun k => by rw [← HXe.out]; go_simp⟩
  have t1 : T6 X (w.heap.size + 1) ⟨x0, x1, x2, x3, x4, x5⟩ := ⟨by rw [← HXe.out]; simp [go_sem], by rw [← HXe.out]; go_simp, by rw [← HXe.out]; go_simp, by rw [← HXe.out]; go_simp, by rw [← HXe.out]; go_simp, by rw [← HXe.out]; go_simp, by rw [← HXe.out]; go_simp⟩
  have t2 : T3 X (w.heap.size + 2) 0 0 (.slice none 0 0) := ⟨by rw [← HXe.out]; simp [go_sem], by rw [← HXe.out]; go_simp, by rw [← HXe.out]; go_simp, by rw [← HXe.out]; go_simp, fun k => by rw [← HXe.out]; go_simp⟩
  have BX : Bl w X := by rw [← HXe.out]; exact (by repeat (first | exact Bl.refl _ | with_reducible apply Bl.alloc | with_reducible apply Bl.grow | with_reducible apply Bl.sd | with_reducible apply Bl.drewN | with_reducible apply Bl.drew))
  have hLX : ∀ Y, Bl X Y → _ := fun Y h => hL Y (BX.trans h)
  have HB := Hd.mk BX
  have H0 := Hd.mk t0
  have H1 := Hd.mk t1
  have H2 := Hd.mk t2
  have hp1 : w.heap.size ≤ w.heap.size + 1 := by omega
  have hp2 : w.heap.size ≤ w.heap.size + 2 := by omega
  have hp3 : w.heap.size ≠ w.heap.size + 2 := by omega
  have hp4 : w.heap.size + 1 ≠ w.heap.size + 2 := by omega
  have z0 := t0.lt
  have z1 := t1.lt
  have z2 := t2.lt
  have hws := BX.size
  clear HXe BX hL hC hFm hB t0 t1 t2
  generalize w.heap.size + 1 = p1 at *
  generalize w.heap.size + 2 = p2 at *
  generalize hp0 : w.heap.size = p0 at *
  obtain ⟨_, a0, a1, a2, a3⟩ := H0.out
  obtain ⟨_, b0, b1, b2, b3, b4, b5⟩ := H1.out
  dsimp only at b0 b1 b2 b3 b4 b5
  go_region_with (first | (go_at_call 62; (with_reducible refine (hLX _ (by repeat (first | with_reducible exact Bl.refl _ | with_reducible apply Bl.alloc | with_reducible apply Bl.grow | with_reducible apply Bl.sd | with_reducible apply Bl.drewN | with_reducible apply Bl.drew))).mono ?_); rintro e Y1 ⟨v1, rfl, ho1, hb1⟩; have B1 : Bl X Y1 := Bl.trans (by repeat (first | with_reducible exact Bl.refl _ | with_reducible apply Bl.alloc | with_reducible apply Bl.grow | with_reducible apply Bl.sd | with_reducible apply Bl.drewN | with_reducible apply Bl.drew)) hb1; obtain ⟨zm, m0, m1, m2, m3⟩ := H0.out.bl B1; obtain ⟨zg, g0, g1, g2, g3, g4, g5⟩ := H1.out.bl B1; have HO1 := Hd.mk ho1; have HB1 := Hd.mk B1; have HBb := Hd.mk hb1; have hsz1 := B1.size; clear ho1 hb1 B1) | (go_at_call 50; refine (tinsert X.heap.size v1 l ix ⟨x0, x1, x2, x3, x4, x5⟩ _ _ (Ow.lower (Ow.bl HO1.out (by repeat (first | with_reducible exact Bl.refl _ | with_reducible apply Bl.alloc | with_reducible apply Bl.grow | with_reducible apply Bl.sd | with_reducible apply Bl.drewN | with_reducible apply Bl.drew))) (by first | exact Nat.le_refl _ | (simp [go_sem]; done))) (by omega) hle (by first | exact news_at _ _ _ rfl | exact (HBb.out.block _ (by simp [go_sem])).trans (news_at _ _ _ rfl)) (by intro e; have := World.ownsRow.lt HO1.out _ e.symm; simp [go_sem] at this; try omega) (by first | exact hsz1 | (simp [go_sem]; omega))).mono ?_; rintro e Y2 ⟨v2, rfl, ho2, hg2⟩; rw [← HIns.out] at ho2; obtain ⟨A2, c2, rfl, hc2, _⟩ := ho2.rd; have B2 : Bl X Y2 := Bl.grown (HB1.out.trans (by repeat (first | with_reducible exact Bl.refl _ | with_reducible apply Bl.alloc | with_reducible apply Bl.grow | with_reducible apply Bl.sd | with_reducible apply Bl.drewN | with_reducible apply Bl.drew))) hg2 (fun k hk => Nat.le_trans (by first | exact Nat.le_refl _ | (simp [go_sem]; done)) (World.ownsRow.lt HO1.out k hk).1); obtain ⟨zn, n0, n1, n2, n3⟩ := H0.out.bl B2; obtain ⟨zh, h0, h1, h2, h3, h4, h5⟩ := H1.out.bl B2; have HO2 := Hd.mk ho2; have HB2 := Hd.mk B2; clear ho2 hg2 B2))
  all_goals
    obtain ⟨zq, q0, q1, q2, q3⟩ := H2.out.bl HB2.out
    have HBw := Hd.mk (HB.out.trans HB2.out)
    go_wp2
    subst hp0
    refine ⟨rfl, _, by simp [results, Try.results37, go_sem, q0, q1, q2]; (repeat' first | rfl | apply And.intro), ⟨_, rfl, Ow.lower (by repeat (first | with_reducible exact HO2.out | with_reducible refine Ow.setCell ?_ (by omega) _)) hws, (by repeat (first | with_reducible exact HBw.out | with_reducible refine Bl.setCell ?_ (by omega)))⟩⟩
theorem tadd (nd len : Int) (A : Option Addr) (c : Nat) (l : List TC) (x : TC) (w : World) (hr : Rd w A l) (hc : l.length ≤ c) :
    Calls Try.prog 37 #[.agg #[.int .i64 nd, .int .i64 len, .slice A l.length c], vT x] w (PT (addS nd len l x) w) := by
  by_cases h : checkT nd len l = 0 ∧ formS x nd len = 0 ∧ foundT l x = false ∧ l.length ≠ 512
  · exact tadd_main nd len A c l x w hr hc h.1 h.2.1 h.2.2.1 h.2.2.2
  · exact tadd_early nd len A c l x w hr hc h
end Go.Proofs.Ytcknakbjiklklaa.F
