import Derived.Test.YtcknakbjiklklaaF34
/- celltable.Remove. -/
namespace Go.Proofs.Ytcknakbjiklklaa.F
open Go.RowKit Go.Sort Go.Proofs.Ytcknakbjiklklaa.B Go.Proofs.Ytcknakbjiklklaa.S
set_option linter.unusedVariables false
set_option linter.unusedSimpArgs false
set_option maxHeartbeats 4000000 in
theorem trem_early (nd len : Int) (A : Option Addr) (c : Nat) (l : List TC) (x : TC) (w : World) (hr : Rd w A l) (hc : l.length ≤ c) (hh : ¬ (checkT nd len l = 0 ∧ x ∈ l)) :
    Calls Try.prog 39 #[.agg #[.int .i64 nd, .int .i64 len, .slice A l.length c], vT x] w (PT (remS nd len l x) w) := by
  have hC : ∀ W, Gr w W → _ := fun W h => tcheck nd len A c l W (hr.gr h) hc
  by_cases h1 : checkT nd len l = 0
  · have hx : x ∉ l := fun h => hh ⟨h1, h⟩
    have hi : idxF (tcEq x) l 0 = -1 := by
      rcases idxF_spec (tcEq x) l 0 with ⟨e, _⟩ | ⟨j, hj, _, hp, _⟩
      · exact e
      · exact absurd (mem_nth.2 ⟨j, hj, ((tcEq_iff _ _).1 hp).symm⟩) hx
    have hI : ∀ W, Gr w W → _ := fun W h => tindex A c l x W (hr.gr h) hc
    have hs : remS nd len l x = (⟨0, 0, []⟩, 7) := by unfold remS; rw [if_neg (by simp [h1]), if_neg hx]
    rw [hs]
    rw [h1] at hC
    rw [hi] at hI
    obtain ⟨x0, x1, x2, x3, x4, x5⟩ := x
    simp only [vT] at hI ⊢
    clear hr hs hh h1 hx hi
    go_enter Try.func39, Try.ntmps39
    go_wp2_with (first | (go_at_call 13; (with_reducible refine (hC _ (by repeat (first | exact Gr.refl _ | with_reducible apply Gr.alloc | with_reducible apply Gr.grow | with_reducible apply Gr.drewN | with_reducible apply Gr.drew))).mono ?_); rintro e w' ⟨rfl, hg⟩; obtain ⟨n, os, rfl⟩ := hg.out; clear hg) | (go_at_call 70; (with_reducible refine (hI _ (by repeat (first | exact Gr.refl _ | with_reducible apply Gr.alloc | with_reducible apply Gr.grow | with_reducible apply Gr.drewN | with_reducible apply Gr.drew))).mono ?_); rintro e w' ⟨rfl, hg⟩; obtain ⟨n, os, rfl⟩ := hg.out; clear hg))
    refine ⟨rfl, _, by simp [results, Try.results39, go_sem]; (repeat' first | rfl | apply And.intro), PT.nil (by repeat (first | exact Bl.refl _ | with_reducible apply Bl.alloc | with_reducible apply Bl.grow | with_reducible apply Bl.sd | with_reducible apply Bl.drewN | with_reducible apply Bl.drew))⟩
  · have hs : remS nd len l x = (⟨0, 0, []⟩, 1) := by unfold remS; rw [if_pos h1]
    rw [hs]
    obtain ⟨x0, x1, x2, x3, x4, x5⟩ := x
    simp only [vT]
    clear hr hs hh
    generalize checkT nd len l = q at *
    have h2' : (q != 0) = true := by simp [h1]
    go_enter Try.func39, Try.ntmps39
    go_wp2_with (first | (go_at_call 13; (with_reducible refine (hC _ (by repeat (first | exact Gr.refl _ | with_reducible apply Gr.alloc | with_reducible apply Gr.grow | with_reducible apply Gr.drewN | with_reducible apply Gr.drew))).mono ?_); rintro e w' ⟨rfl, hg⟩; obtain ⟨n, os, rfl⟩ := hg.out; clear hg))
    refine ⟨rfl, _, by simp [results, Try.results39, go_sem]; (repeat' first | rfl | apply And.intro), PT.nil (by repeat (first | exact Bl.refl _ | with_reducible apply Bl.alloc | with_reducible apply Bl.grow | with_reducible apply Bl.sd | with_reducible apply Bl.drewN | with_reducible apply Bl.drew))⟩
set_option maxHeartbeats 4000000 in
set_option maxRecDepth 100000 in
theorem trem_main (nd len : Int) (A : Option Addr) (c : Nat) (l : List TC) (x : TC) (w : World) (hr : Rd w A l) (hc : l.length ≤ c) (h1 : checkT nd len l = 0) (hx : x ∈ l) :
    Calls Try.prog 39 #[.agg #[.int .i64 nd, .int .i64 len, .slice A l.length c], vT x] w (PT (remS nd len l x) w) := by
  have hC : ∀ W, Gr w W → _ := fun W h => tcheck nd len A c l W (hr.gr h) hc
  obtain ⟨_, _, h512, _, hso⟩ := checkT_ok h1
  obtain ⟨j, hj, hji, hjx⟩ : ∃ j, j < l.length ∧ idxF (tcEq x) l 0 = (j : Int) ∧ nth l j = x := by
    rcases idxF_spec (tcEq x) l 0 with ⟨_, e⟩ | ⟨j, hj, e, hp, _⟩
    · have := e x hx
      rw [(tcEq_iff x x).2 rfl] at this
      cases this
    · exact ⟨j, hj, by rw [e, Nat.zero_add], ((tcEq_iff _ _).1 hp).symm⟩
  have hI : ∀ W, Gr w W → _ := fun W h => tindex A c l x W (hr.gr h) hc
  have hs : remS nd len l x = (⟨nd, len, l.take j ++ l.drop (j + 1)⟩, 0) := by unfold remS; rw [if_neg (by simp [h1]), if_pos hx, del_at hso hj hjx]
  rw [hs]
  rw [h1] at hC
  rw [hji] at hI
  have hL : ∀ W, Bl w W → _ := fun W h => tclone A c l W (hr.bl h) hc (by omega)
  obtain ⟨x0, x1, x2, x3, x4, x5⟩ := x
  simp only [vT] at hI ⊢
  have hjz : ¬ (j : Int) < 0 := by omega
  clear hr hs h1 hx hji hjx hso
  go_enter Try.func39, Try.ntmps39
  go_upto_region 6 with (first | (go_at_call 13; (with_reducible refine (hC _ (by repeat (first | exact Gr.refl _ | with_reducible apply Gr.alloc | with_reducible apply Gr.grow | with_reducible apply Gr.drewN | with_reducible apply Gr.drew))).mono ?_); rintro e w' ⟨rfl, hg⟩; obtain ⟨n, os, rfl⟩ := hg.out; clear hg) | (go_at_call 70; (with_reducible refine (hI _ (by repeat (first | exact Gr.refl _ | with_reducible apply Gr.alloc | with_reducible apply Gr.grow | with_reducible apply Gr.drewN | with_reducible apply Gr.drew))).mono ?_); rintro e w' ⟨rfl, hg⟩; obtain ⟨n, os, rfl⟩ := hg.out; clear hg))
  generalize hX : Sort.grow _ _ = X
  have HXe := Hd.mk hX
  clear hX
  have t0 : T3 X w.heap.size nd len (.slice A l.length c) := ⟨by rw [← HXe.out]; simp [go_sem], by rw [← HXe.out]; go_simp, by rw [← HXe.out]; go_simp, by rw [← HXe.out]; go_simp, fun k => by rw [← HXe.out]; go_simp⟩
  have t2 : T3 X (w.heap.size + 2) 0 0 (.slice none 0 0) := ⟨by rw [← HXe.out]; simp [go_sem], by rw [← HXe.out]; go_simp, by rw [← HXe.out]; go_simp, by rw [← HXe.out]; go_simp, fun k => by rw [← HXe.out]; go_simp⟩
  have BX : Bl w X := by rw [← HXe.out]; exact (by repeat (first | exact Bl.refl _ | with_reducible apply Bl.alloc | with_reducible apply Bl.grow | with_reducible apply Bl.sd | with_reducible apply Bl.drewN | with_reducible apply Bl.drew))
  have hLX := hL X BX
  have HB := Hd.mk BX
  have H0 := Hd.mk t0
  have H2 := Hd.mk t2
  have hp2 : w.heap.size ≤ w.heap.size + 2 := by omega
  have hp3 : w.heap.size ≠ w.heap.size + 2 := by omega
  have z0 := t0.lt
  have z2 := t2.lt
  have hws := BX.size
  clear HXe BX hL hC hI t0 t2
  generalize w.heap.size + 2 = p2 at *
  generalize hp0 : w.heap.size = p0 at *
  obtain ⟨_, a0, a1, a2, a3⟩ := H0.out
  go_wp2_with fail
  refine hLX.mono ?_
  rintro e Y1 ⟨v1, rfl, ho1, hb1⟩
  have HO1 := Hd.mk ho1
  have HB1 := Hd.mk hb1
  clear ho1 hb1 a0 a1 a2 a3
  go_wp2_with fail
  refine (tdelete X.heap.size v1 l j Y1 HO1.out (by omega) HB1.out.size hj).mono ?_
  rintro e Y2 ⟨v2, rfl, ho2, hb2⟩
  obtain ⟨A2, c2, rfl, hc2, _⟩ := ho2.rd
  have B2 : Bl X Y2 := Below.trans HB1.out hb2.1
  obtain ⟨zn, n0, n1, n2, n3⟩ := H0.out.bl B2
  obtain ⟨zq, q0, q1, q2, q3⟩ := H2.out.bl B2
  have HBw := Hd.mk (HB.out.trans B2)
  have HO2 := Hd.mk ho2
  clear ho2 hb2 B2
  generalize l.take j ++ l.drop (j + 1) = l2 at *
  go_wp2
  subst hp0
  refine ⟨rfl, _, by simp [results, Try.results39, go_sem, q0, q1, q2]; (repeat' first | rfl | apply And.intro), ⟨_, rfl, Ow.lower (by repeat (first | with_reducible exact HO2.out | with_reducible refine Ow.setCell ?_ (by omega) _)) hws, (by repeat (first | with_reducible exact HBw.out | with_reducible refine Bl.setCell ?_ (by omega)))⟩⟩
theorem trem (nd len : Int) (A : Option Addr) (c : Nat) (l : List TC) (x : TC) (w : World) (hr : Rd w A l) (hc : l.length ≤ c) :
    Calls Try.prog 39 #[.agg #[.int .i64 nd, .int .i64 len, .slice A l.length c], vT x] w (PT (remS nd len l x) w) := by
  by_cases h : checkT nd len l = 0 ∧ x ∈ l
  · exact trem_main nd len A c l x w hr hc h.1 h.2
  · exact trem_early nd len A c l x w hr hc h
end Go.Proofs.Ytcknakbjiklklaa.F
