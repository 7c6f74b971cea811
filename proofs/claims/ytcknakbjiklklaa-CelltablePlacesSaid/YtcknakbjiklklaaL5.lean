import Derived.Test.YtcknakbjiklklaaF18
import Derived.Test.YtcknakbjiklklaaF40
import Derived.Test.YtcknakbjiklklaaF42
import Derived.Test.YtcknakbjiklklaaF43
/- The law CelltablePlaces, walked. -/
namespace Go.Proofs.Ytcknakbjiklklaa.L
open Go.RowKit Go.Sort Go.Proofs.Ytcknakbjiklklaa.B Go.Proofs.Ytcknakbjiklklaa.S Go.Proofs.Ytcknakbjiklklaa.F
set_option linter.unusedVariables false
set_option linter.unusedSimpArgs false
theorem peq_true (A B : Option Addr) (c d : Nat) (l : List Sp) (w : World) (ha : RdP w A l) (hb : RdP w B l) (hc : l.length ≤ c) (hd : l.length ≤ d) :
    Calls Try.prog 32 #[.slice A l.length c, .slice B l.length d] w fun e w' => e = .returned (.bool true) ∧ Gr w w' := by
  have := peq A B c d l l w ha hb hc hd
  rwa [decide_eq_true rfl] at this
set_option maxHeartbeats 4000000 in
set_option maxRecDepth 100000 in
theorem lawPlaces (na la : Int) (A : Option Addr) (c : Nat) (a : List TC) (nb lb : Int) (B : Option Addr) (d : Nat) (b : List TC) (C : Option Addr) (k : Nat) (f : List Int) (sl off n : Int) (w : World)
    (ha : Rd w A a) (hc : a.length ≤ c) (hb : Rd w B b) (hd : b.length ≤ d) (hf : RdI w C f) (hk : f.length ≤ k) :
    Calls Try.prog 7 #[.agg #[.int .i64 na, .int .i64 la, .slice A a.length c], .agg #[.int .i64 nb, .int .i64 lb, .slice B b.length d], .slice C f.length k, .agg #[.int .i64 sl, .int .i64 off], .int .i64 n] w fun e w' => e = .returned (.bool true) ∧ Bl w w' := by
  have hm := mixed
  have hA := awake_
  have hF := fun W => qfew na la A c a W ha.1
  have hG := fun W => qfew nb lb B d b W hb.1
  have h1 : ∀ W, Bl w W → _ := fun W h => tfits na la A c a C k f sl off W (ha.bl h) hc (RdI.bl hf h) hk
  have h2 : ∀ W, Bl w W → _ := fun W h => xfits na la A c a C k f sl off W (ha.bl h) hc (RdI.bl hf h) hk
  have h3 : ∀ W, Bl w W → _ := fun W h => tcand na la A c a C k f n W (ha.bl h) hc (RdI.bl hf h) hk
  have h4 : ∀ W, Bl w W → _ := fun W h => xcand na la A c a C k f n W (ha.bl h) hc (RdI.bl hf h) hk
  have h5 : ∀ W, Bl w W → _ := fun W h => tmirror na la A c a nb lb B d b W (ha.bl h) hc (hb.bl h) hd
  have h6 : ∀ W, Bl w W → _ := fun W h => xmirror na la A c a nb lb B d b W (ha.bl h) hc (hb.bl h) hd
  clear ha hb hf
  generalize fitsS na la a f sl off = q at *
  generalize candS na la a f n = p at *
  generalize mirS na la a nb lb b = m at *
  generalize hfe : fewT la a.length = x at *
  generalize hge : fewT lb b.length = y at *
  clear hfe hge
  cases x with
  | false =>
    go_enter Try.func7, Try.ntmps7
    go_wp2_with (first | (go_at_call 11; (with_reducible refine (hA _).mono ?_); rintro e w' ⟨rfl, hg⟩; obtain ⟨n, os, rfl⟩ := hg.out; clear hg) | (go_at_call 12; (with_reducible refine (hF _).mono ?_); rintro e w' ⟨rfl, hg⟩; obtain ⟨n, os, rfl⟩ := hg.out; clear hg))
    go_ret
    exact ⟨rfl, (by repeat (first | exact Bl.refl _ | with_reducible apply Bl.alloc | with_reducible apply Bl.grow | with_reducible apply Bl.sd | with_reducible apply Bl.drewN | with_reducible apply Bl.drew))⟩
  | true =>
    cases y with
    | false =>
      go_enter Try.func7, Try.ntmps7
      go_wp2_with (first | (go_at_call 11; (with_reducible refine (hA _).mono ?_); rintro e w' ⟨rfl, hg⟩; obtain ⟨n, os, rfl⟩ := hg.out; clear hg) | (go_at_call 12; (with_reducible refine (hF _).mono ?_); rintro e w' ⟨rfl, hg⟩; obtain ⟨n, os, rfl⟩ := hg.out; clear hg) | (go_at_call 12; (with_reducible refine (hG _).mono ?_); rintro e w' ⟨rfl, hg⟩; obtain ⟨n, os, rfl⟩ := hg.out; clear hg))
      go_ret
      exact ⟨rfl, (by repeat (first | exact Bl.refl _ | with_reducible apply Bl.alloc | with_reducible apply Bl.grow | with_reducible apply Bl.sd | with_reducible apply Bl.drewN | with_reducible apply Bl.drew))⟩
    | true =>
      by_cases h600 : (600 : Int) < (f.length : Int)
      · go_enter Try.func7, Try.ntmps7
        go_wp2_with (first | (go_at_call 11; (with_reducible refine (hA _).mono ?_); rintro e w' ⟨rfl, hg⟩; obtain ⟨n, os, rfl⟩ := hg.out; clear hg) | (go_at_call 12; (with_reducible refine (hF _).mono ?_); rintro e w' ⟨rfl, hg⟩; obtain ⟨n, os, rfl⟩ := hg.out; clear hg) | (go_at_call 12; (with_reducible refine (hG _).mono ?_); rintro e w' ⟨rfl, hg⟩; obtain ⟨n, os, rfl⟩ := hg.out; clear hg))
        go_ret
        exact ⟨rfl, (by repeat (first | exact Bl.refl _ | with_reducible apply Bl.alloc | with_reducible apply Bl.grow | with_reducible apply Bl.sd | with_reducible apply Bl.drewN | with_reducible apply Bl.drew))⟩
      · go_enter Try.func7, Try.ntmps7
        go_upto_region 5 with (first | (go_at_call 11; (with_reducible refine (hA _).mono ?_); rintro e w' ⟨rfl, hg⟩; obtain ⟨n, os, rfl⟩ := hg.out; clear hg) | (go_at_call 12; (with_reducible refine (hF _).mono ?_); rintro e w' ⟨rfl, hg⟩; obtain ⟨n, os, rfl⟩ := hg.out; clear hg) | (go_at_call 12; (with_reducible refine (hG _).mono ?_); rintro e w' ⟨rfl, hg⟩; obtain ⟨n, os, rfl⟩ := hg.out; clear hg))
        generalize hX : Sort.grow _ _ = X
        have HXe := Hd.mk hX
        clear hX
        have H0 : Hd (T3 X w.heap.size na la (.slice A a.length c)) := ⟨⟨by rw [← HXe.out]; simp [go_sem], by rw [← HXe.out]; go_simp, by rw [← HXe.out]; go_simp, by rw [← HXe.out]; go_simp, fun k => by rw [← HXe.out]; go_simp⟩⟩
        have H1 : Hd (T3 X (w.heap.size + 1) nb lb (.slice B b.length d)) := ⟨⟨by rw [← HXe.out]; simp [go_sem], by rw [← HXe.out]; go_simp, by rw [← HXe.out]; go_simp, by rw [← HXe.out]; go_simp, fun k => by rw [← HXe.out]; go_simp⟩⟩
        have H2 : Hd (T2 X (w.heap.size + 2) sl off) := ⟨⟨by rw [← HXe.out]; simp [go_sem], by rw [← HXe.out]; go_simp, by rw [← HXe.out]; go_simp⟩⟩
        have HB0 : Hd (Bl w X) := ⟨by rw [← HXe.out]; exact (by repeat (first | exact Bl.refl _ | with_reducible apply Bl.alloc | with_reducible apply Bl.grow | with_reducible apply Bl.sd | with_reducible apply Bl.drewN | with_reducible apply Bl.drew))⟩
        have h1X := fun Y (h : Bl X Y) => h1 Y (HB0.out.trans h)
        have h2X := fun Y (h : Bl X Y) => h2 Y (HB0.out.trans h)
        have h3X := fun Y (h : Bl X Y) => h3 Y (HB0.out.trans h)
        have h4X := fun Y (h : Bl X Y) => h4 Y (HB0.out.trans h)
        have h5X := fun Y (h : Bl X Y) => h5 Y (HB0.out.trans h)
        have h6X := fun Y (h : Bl X Y) => h6 Y (HB0.out.trans h)
        clear HXe hA hF hG h1 h2 h3 h4 h5 h6
        generalize w.heap.size + 1 = p1 at *
        generalize w.heap.size + 2 = p2 at *
        generalize w.heap.size = p0 at *
        obtain ⟨z0, a0, a1, a2, a3⟩ := H0.out
        obtain ⟨z1, b0, b1, b2, b3⟩ := H1.out
        obtain ⟨z2, s0, s1⟩ := H2.out
        go_region_held3 (fun w' => w'.cell? ⟨p0, 0, none⟩ = some (.int .i64 na) ∧ w'.cell? ⟨p0, 1, none⟩ = some (.int .i64 la) ∧ w'.cell? ⟨p0, 2, none⟩ = some (.slice A a.length c) ∧ w'.cell? ⟨p1, 0, none⟩ = some (.int .i64 nb) ∧ w'.cell? ⟨p1, 1, none⟩ = some (.int .i64 lb) ∧ w'.cell? ⟨p1, 2, none⟩ = some (.slice B b.length d) ∧ w'.cell? ⟨p2, 0, none⟩ = some (.int .i64 sl) ∧ w'.cell? ⟨p2, 1, none⟩ = some (.int .i64 off)) ((go_simp; done)) (first
          | (go_at_call 30; (with_reducible refine (h1X _ (by repeat (first | with_reducible exact Bl.refl _ | with_reducible apply Bl.alloc | with_reducible apply Bl.grow | with_reducible apply Bl.sd | with_reducible apply Bl.drewN | with_reducible apply Bl.drew))).mono ?_); rintro e w' ⟨rfl, hg⟩; obtain ⟨n, os, rfl⟩ := hg.out; clear hg)
          | (go_at_call 31; (with_reducible refine (h2X _ (by repeat (first | with_reducible exact Bl.refl _ | with_reducible apply Bl.alloc | with_reducible apply Bl.grow | with_reducible apply Bl.sd | with_reducible apply Bl.drewN | with_reducible apply Bl.drew))).mono ?_); rintro e w' ⟨rfl, hg⟩; obtain ⟨n, os, rfl⟩ := hg.out; clear hg)
          | (go_at_call 33; (with_reducible refine (h3X _ (by repeat (first | with_reducible exact Bl.refl _ | with_reducible apply Bl.alloc | with_reducible apply Bl.grow | with_reducible apply Bl.sd | with_reducible apply Bl.drewN | with_reducible apply Bl.drew))).mono ?_); rintro e Y1 ⟨v1, rfl, ho1, hb1⟩; have BY1 : Bl X Y1 := Bl.trans (by repeat (first | with_reducible exact Bl.refl _ | with_reducible apply Bl.alloc | with_reducible apply Bl.grow | with_reducible apply Bl.sd | with_reducible apply Bl.drewN | with_reducible apply Bl.drew)) hb1; obtain ⟨A1, c1, rfl, hc1, r1⟩ := OwP.rd ho1; obtain ⟨zm, m0, m1, m2, m3⟩ := H0.out.bl BY1; obtain ⟨zn, n0, n1, n2, n3⟩ := H1.out.bl BY1; obtain ⟨zo, o0, o1⟩ := H2.out.bl BY1; have HR1 := Hd.mk r1; have HY1 := Hd.mk BY1; clear ho1 hb1 r1 BY1)
          | (go_at_call 34; (with_reducible refine (h4X _ HY1.out).mono ?_); rintro e Y2 ⟨v2, rfl, ho2, hb2⟩; have BY2 : Bl X Y2 := HY1.out.trans hb2; obtain ⟨A2, c2, rfl, hc2, r2⟩ := OwP.rd ho2; have heqp := peq_true A1 A2 c1 c2 p Y2 (RdP.bl HR1.out hb2) r2 hc1 hc2; obtain ⟨zg, g0, g1, g2, g3⟩ := H0.out.bl BY2; obtain ⟨zh, i0, i1, i2, i3⟩ := H1.out.bl BY2; obtain ⟨zi, j0, j1⟩ := H2.out.bl BY2; have HY2 := Hd.mk BY2; clear ho2 hb2 r2 BY2)
          | (go_at_call 32; (with_reducible refine heqp.mono ?_); rintro e w' ⟨rfl, hg⟩; obtain ⟨n, os, rfl⟩ := hg.out; clear hg)
          | (go_at_call 35; (with_reducible refine (h5X _ (HY2.out.trans (by repeat (first | with_reducible exact Bl.refl _ | with_reducible apply Bl.alloc | with_reducible apply Bl.grow | with_reducible apply Bl.sd | with_reducible apply Bl.drewN | with_reducible apply Bl.drew)))).mono ?_); rintro e Y3 ⟨rfl, hb3⟩; have BY3 : Bl X Y3 := (HY2.out.trans (by repeat (first | with_reducible exact Bl.refl _ | with_reducible apply Bl.alloc | with_reducible apply Bl.grow | with_reducible apply Bl.sd | with_reducible apply Bl.drewN | with_reducible apply Bl.drew))).trans hb3; obtain ⟨zt, t0, t1, t2, t3⟩ := H0.out.bl BY3; obtain ⟨zu, u0, u1, u2, u3⟩ := H1.out.bl BY3; obtain ⟨zv, v0, v1⟩ := H2.out.bl BY3; have HY3 := Hd.mk BY3; clear hb3 BY3)
          | (go_at_call 36; (with_reducible refine (h6X _ HY3.out).mono ?_); rintro e Y4 ⟨rfl, hb4⟩; have BY4 : Bl X Y4 := HY3.out.trans hb4; obtain ⟨zq, q0, q1, q2, q3⟩ := H0.out.bl BY4; obtain ⟨zr, r0, r1, r2, r3⟩ := H1.out.bl BY4; obtain ⟨zs, e0, e1⟩ := H2.out.bl BY4; have HY4 := Hd.mk BY4; clear hb4 BY4))
        all_goals
          go_wp2
          go_ret
          exact ⟨ret_bool (by simp), HB0.out.trans (HY4.out.trans (by repeat (first | with_reducible exact Bl.refl _ | with_reducible apply Bl.alloc | with_reducible apply Bl.grow | with_reducible apply Bl.sd | with_reducible apply Bl.drewN | with_reducible apply Bl.drew)))⟩
end Go.Proofs.Ytcknakbjiklklaa.L
