import Derived.Test.YtcknakbjiklklaaF18
import Derived.Test.YtcknakbjiklklaaF22
import Derived.Test.YtcknakbjiklklaaF23
import Derived.Test.YtcknakbjiklklaaF24
import Derived.Test.YtcknakbjiklklaaF25
/- The law CelltableAt, walked. -/
namespace Go.Proofs.Ytcknakbjiklklaa.L
open Go.RowKit Go.Sort Go.Proofs.Ytcknakbjiklklaa.B Go.Proofs.Ytcknakbjiklklaa.S Go.Proofs.Ytcknakbjiklklaa.F
set_option linter.unusedVariables false
set_option linter.unusedSimpArgs false
set_option maxHeartbeats 4000000 in
set_option maxRecDepth 100000 in
theorem lawAt (nd len : Int) (A : Option Addr) (c : Nat) (l : List TC) (slot peer : Int) (w : World) (hr : Rd w A l) (hc : l.length ≤ c) :
    Calls Try.prog 6 #[.agg #[.int .i64 nd, .int .i64 len, .slice A l.length c], .int .i64 slot, .int .i64 peer] w fun e w' => e = .returned (.bool true) ∧ Bl w w' := by
  have hm := mixed
  have hA := awake_
  have hF := fun W => qfew nd len A c l W hr.1
  have h1 : ∀ W, Bl w W → _ := fun W h => tat nd len A c l slot W (hr.bl h) hc
  have h2 : ∀ W, Bl w W → _ := fun W h => xat nd len A c l slot W (hr.bl h) hc
  have h3 : ∀ W, Bl w W → _ := fun W h => tbetween nd len A c l peer W (hr.bl h) hc
  have h4 : ∀ W, Bl w W → _ := fun W h => xbetween nd len A c l peer W (hr.bl h) hc
  clear hr
  generalize atS nd len l slot = a at *
  generalize betS nd len l peer = b at *
  obtain ⟨⟨x0, x1, x2, x3, x4, x5⟩, q⟩ := a
  simp only [vT] at h1 h2
  generalize hfe : fewT len l.length = f at *
  clear hfe
  cases f with
  | false =>
    go_enter Try.func6, Try.ntmps6
    go_wp2_with (first | (go_at_call 11; (with_reducible refine (hA _).mono ?_); rintro e w' ⟨rfl, hg⟩; obtain ⟨n, os, rfl⟩ := hg.out; clear hg) | (go_at_call 12; (with_reducible refine (hF _).mono ?_); rintro e w' ⟨rfl, hg⟩; obtain ⟨n, os, rfl⟩ := hg.out; clear hg))
    go_ret
    exact ⟨rfl, (by repeat (first | exact Bl.refl _ | with_reducible apply Bl.alloc | with_reducible apply Bl.grow | with_reducible apply Bl.sd | with_reducible apply Bl.drewN | with_reducible apply Bl.drew))⟩
  | true =>
    have heq := fun W => eqt x0 x0 x1 x1 x2 x2 x3 x3 x4 x4 x5 x5 W
    rw [(tcEq_iff _ _).2 rfl] at heq
    have hg43 := guard43
    go_enter Try.func6, Try.ntmps6
    go_upto_region 5 with (first | (go_at_call 11; (with_reducible refine (hA _).mono ?_); rintro e w' ⟨rfl, hg⟩; obtain ⟨n, os, rfl⟩ := hg.out; clear hg) | (go_at_call 12; (with_reducible refine (hF _).mono ?_); rintro e w' ⟨rfl, hg⟩; obtain ⟨n, os, rfl⟩ := hg.out; clear hg))
    generalize hW : Sort.grow _ _ = W
    have HWe := Hd.mk hW
    clear hW
    have b0 : W.cell? ⟨w.heap.size, 0, none⟩ = some (.int .i64 nd) := by rw [← HWe.out]; go_simp
    have b1 : W.cell? ⟨w.heap.size, 1, none⟩ = some (.int .i64 len) := by rw [← HWe.out]; go_simp
    have b2 : W.cell? ⟨w.heap.size, 2, none⟩ = some (.slice A l.length c) := by rw [← HWe.out]; go_simp
    have B0 : Bl w W := by rw [← HWe.out]; exact (by repeat (first | exact Bl.refl _ | with_reducible apply Bl.alloc | with_reducible apply Bl.grow | with_reducible apply Bl.sd | with_reducible apply Bl.drewN | with_reducible apply Bl.drew))
    have z0 := World.block_lt_of_cell? W _ b0
    dsimp only at z0
    have HB0 := Hd.mk B0
    clear HWe B0 hA hF
    go_wp2_with fail
    refine (h1 _ HB0.out).mono ?_
    rintro e W1 ⟨rfl, hb1⟩
    have c0 := (Below.cell hb1 (p := ⟨w.heap.size, 0, none⟩) z0).trans b0
    have c1 := (Below.cell hb1 (p := ⟨w.heap.size, 1, none⟩) z0).trans b1
    have c2 := (Below.cell hb1 (p := ⟨w.heap.size, 2, none⟩) z0).trans b2
    have z1 : w.heap.size < W1.heap.size := World.block_lt_of_cell? W1 _ c0
    have HB1 := Hd.mk (HB0.out.trans hb1)
    clear b0 b1 b2 hb1 HB0 h1
    go_wp2_with fail
    refine (h2 _ (HB1.out.trans (by repeat (first | with_reducible exact Bl.refl _ | with_reducible apply Bl.alloc | with_reducible apply Bl.grow | with_reducible apply Bl.sd | with_reducible apply Bl.drewN | with_reducible apply Bl.drew)))).mono ?_
    rintro e W2 ⟨rfl, hb2⟩
    have e0 : W2.cell? ⟨W1.heap.size, 0, none⟩ = some (.int .i64 x0) := (Below.cell hb2 (p := ⟨W1.heap.size, 0, none⟩) (by simp [go_sem])).trans (by go_simp)
    have e1 : W2.cell? ⟨W1.heap.size, 1, none⟩ = some (.int .i64 x1) := (Below.cell hb2 (p := ⟨W1.heap.size, 1, none⟩) (by simp [go_sem])).trans (by go_simp)
    have e2 : W2.cell? ⟨W1.heap.size, 2, none⟩ = some (.int .i64 x2) := (Below.cell hb2 (p := ⟨W1.heap.size, 2, none⟩) (by simp [go_sem])).trans (by go_simp)
    have e3 : W2.cell? ⟨W1.heap.size, 3, none⟩ = some (.bool x3) := (Below.cell hb2 (p := ⟨W1.heap.size, 3, none⟩) (by simp [go_sem])).trans (by go_simp)
    have e4 : W2.cell? ⟨W1.heap.size, 4, none⟩ = some (.int .i64 x4) := (Below.cell hb2 (p := ⟨W1.heap.size, 4, none⟩) (by simp [go_sem])).trans (by go_simp)
    have e5 : W2.cell? ⟨W1.heap.size, 5, none⟩ = some (.int .i64 x5) := (Below.cell hb2 (p := ⟨W1.heap.size, 5, none⟩) (by simp [go_sem])).trans (by go_simp)
    have hb2' : Bl W1 W2 := Bl.trans (by repeat (first | with_reducible exact Bl.refl _ | with_reducible apply Bl.alloc | with_reducible apply Bl.grow | with_reducible apply Bl.sd | with_reducible apply Bl.drewN | with_reducible apply Bl.drew)) hb2
    have d0 := (Below.cell hb2' (p := ⟨w.heap.size, 0, none⟩) z1).trans c0
    have d1 := (Below.cell hb2' (p := ⟨w.heap.size, 1, none⟩) z1).trans c1
    have d2 := (Below.cell hb2' (p := ⟨w.heap.size, 2, none⟩) z1).trans c2
    have z2 : w.heap.size < W2.heap.size := World.block_lt_of_cell? W2 _ d0
    have y2 : W1.heap.size < W2.heap.size := World.block_lt_of_cell? W2 _ e0
    have HB2 := Hd.mk (HB1.out.trans hb2')
    clear c0 c1 c2 hb2 hb2' HB1 h2
    generalize W1.heap.size = p7 at *
    go_upto_region 7 with fail
    generalize hX : World.alloc _ _ = X
    have HXe := Hd.mk hX
    clear hX
    have g0 : X.cell? ⟨W2.heap.size, 0, none⟩ = some (.int .i64 x0) := by rw [← HXe.out]; go_simp
    have g1 : X.cell? ⟨W2.heap.size, 1, none⟩ = some (.int .i64 x1) := by rw [← HXe.out]; go_simp
    have g2 : X.cell? ⟨W2.heap.size, 2, none⟩ = some (.int .i64 x2) := by rw [← HXe.out]; go_simp
    have g3 : X.cell? ⟨W2.heap.size, 3, none⟩ = some (.bool x3) := by rw [← HXe.out]; go_simp
    have g4 : X.cell? ⟨W2.heap.size, 4, none⟩ = some (.int .i64 x4) := by rw [← HXe.out]; go_simp
    have g5 : X.cell? ⟨W2.heap.size, 5, none⟩ = some (.int .i64 x5) := by rw [← HXe.out]; go_simp
    have f0 : X.cell? ⟨p7, 0, none⟩ = some (.int .i64 x0) := by rw [← HXe.out]; go_simp
    have f1 : X.cell? ⟨p7, 1, none⟩ = some (.int .i64 x1) := by rw [← HXe.out]; go_simp
    have f2 : X.cell? ⟨p7, 2, none⟩ = some (.int .i64 x2) := by rw [← HXe.out]; go_simp
    have f3 : X.cell? ⟨p7, 3, none⟩ = some (.bool x3) := by rw [← HXe.out]; go_simp
    have f4 : X.cell? ⟨p7, 4, none⟩ = some (.int .i64 x4) := by rw [← HXe.out]; go_simp
    have f5 : X.cell? ⟨p7, 5, none⟩ = some (.int .i64 x5) := by rw [← HXe.out]; go_simp
    have a0 : X.cell? ⟨w.heap.size, 0, none⟩ = some (.int .i64 nd) := by rw [← HXe.out]; go_simp
    have a1 : X.cell? ⟨w.heap.size, 1, none⟩ = some (.int .i64 len) := by rw [← HXe.out]; go_simp
    have a2 : X.cell? ⟨w.heap.size, 2, none⟩ = some (.slice A l.length c) := by rw [← HXe.out]; go_simp
    have hBX : Bl W2 X := by rw [← HXe.out]; exact (by repeat (first | with_reducible exact Bl.refl _ | with_reducible apply Bl.alloc | with_reducible apply Bl.grow | with_reducible apply Bl.sd | with_reducible apply Bl.drewN | with_reducible apply Bl.drew))
    have HBX := Hd.mk (HB2.out.trans hBX)
    have k1 : w.heap.size < X.heap.size := World.block_lt_of_cell? X _ a0
    have k2 : p7 < X.heap.size := World.block_lt_of_cell? X _ f0
    have k3 : W2.heap.size < X.heap.size := World.block_lt_of_cell? X _ g0
    have h3' := fun Y (h : Bl X Y) => h3 Y (HBX.out.trans h)
    have h4' := fun Y (h : Bl X Y) => h4 Y (HBX.out.trans h)
    clear HXe hBX d0 d1 d2 e0 e1 e2 e3 e4 e5 z2 y2 HB2 h3 h4 z0 z1
    generalize W2.heap.size = p9 at *
    cases q
    all_goals
      go_region_held3 (fun w' => w'.cell? ⟨w.heap.size, 0, none⟩ = some (.int .i64 nd) ∧ w'.cell? ⟨w.heap.size, 1, none⟩ = some (.int .i64 len) ∧ w'.cell? ⟨w.heap.size, 2, none⟩ = some (.slice A l.length c) ∧ w'.cell? ⟨p7, 0, none⟩ = some (.int .i64 x0) ∧ w'.cell? ⟨p7, 1, none⟩ = some (.int .i64 x1) ∧ w'.cell? ⟨p7, 2, none⟩ = some (.int .i64 x2) ∧ w'.cell? ⟨p7, 3, none⟩ = some (.bool x3) ∧ w'.cell? ⟨p7, 4, none⟩ = some (.int .i64 x4) ∧ w'.cell? ⟨p7, 5, none⟩ = some (.int .i64 x5) ∧ w'.cell? ⟨p9, 0, none⟩ = some (.int .i64 x0) ∧ w'.cell? ⟨p9, 1, none⟩ = some (.int .i64 x1) ∧ w'.cell? ⟨p9, 2, none⟩ = some (.int .i64 x2) ∧ w'.cell? ⟨p9, 3, none⟩ = some (.bool x3) ∧ w'.cell? ⟨p9, 4, none⟩ = some (.int .i64 x4) ∧ w'.cell? ⟨p9, 5, none⟩ = some (.int .i64 x5)) ((go_simp; done)) (first | (go_at_call 28; (with_reducible refine (h3' _ (by repeat (first | with_reducible exact Bl.refl _ | with_reducible apply Bl.alloc | with_reducible apply Bl.grow | with_reducible apply Bl.sd | with_reducible apply Bl.drewN | with_reducible apply Bl.drew))).mono ?_); rintro e Y1 ⟨v1, rfl, ho1, hb1⟩; have B1 : Bl X Y1 := Bl.trans (by repeat (first | with_reducible exact Bl.refl _ | with_reducible apply Bl.alloc | with_reducible apply Bl.grow | with_reducible apply Bl.sd | with_reducible apply Bl.drewN | with_reducible apply Bl.drew)) hb1; obtain ⟨A1, c1, rfl, hc1, r1⟩ := ho1.rd; have R1 := Hd.mk r1; have ma0 := (Below.cell B1 (p := ⟨w.heap.size, 0, none⟩) k1).trans a0; have ma1 := (Below.cell B1 (p := ⟨w.heap.size, 1, none⟩) k1).trans a1; have ma2 := (Below.cell B1 (p := ⟨w.heap.size, 2, none⟩) k1).trans a2; have mf0 := (Below.cell B1 (p := ⟨p7, 0, none⟩) k2).trans f0; have mf1 := (Below.cell B1 (p := ⟨p7, 1, none⟩) k2).trans f1; have mf2 := (Below.cell B1 (p := ⟨p7, 2, none⟩) k2).trans f2; have mf3 := (Below.cell B1 (p := ⟨p7, 3, none⟩) k2).trans f3; have mf4 := (Below.cell B1 (p := ⟨p7, 4, none⟩) k2).trans f4; have mf5 := (Below.cell B1 (p := ⟨p7, 5, none⟩) k2).trans f5; have mg0 := (Below.cell B1 (p := ⟨p9, 0, none⟩) k3).trans g0; have mg1 := (Below.cell B1 (p := ⟨p9, 1, none⟩) k3).trans g1; have mg2 := (Below.cell B1 (p := ⟨p9, 2, none⟩) k3).trans g2; have mg3 := (Below.cell B1 (p := ⟨p9, 3, none⟩) k3).trans g3; have mg4 := (Below.cell B1 (p := ⟨p9, 4, none⟩) k3).trans g4; have mg5 := (Below.cell B1 (p := ⟨p9, 5, none⟩) k3).trans g5; clear ho1 hb1 r1) | (go_at_call 29; (with_reducible refine (h4' _ B1).mono ?_); rintro e Y2 ⟨v2, rfl, ho2, hb2⟩; have B2 : Bl X Y2 := Bl.trans B1 hb2; obtain ⟨A2, c2, rfl, hc2, r2⟩ := ho2.rd; have hsm := xsamec A1 A2 c1 c2 b b Y2 (R1.out.bl hb2) r2 hc1 hc2; rw [decide_eq_true rfl] at hsm; have na0 := (Below.cell B2 (p := ⟨w.heap.size, 0, none⟩) k1).trans a0; have na1 := (Below.cell B2 (p := ⟨w.heap.size, 1, none⟩) k1).trans a1; have na2 := (Below.cell B2 (p := ⟨w.heap.size, 2, none⟩) k1).trans a2; have nf0 := (Below.cell B2 (p := ⟨p7, 0, none⟩) k2).trans f0; have nf1 := (Below.cell B2 (p := ⟨p7, 1, none⟩) k2).trans f1; have nf2 := (Below.cell B2 (p := ⟨p7, 2, none⟩) k2).trans f2; have nf3 := (Below.cell B2 (p := ⟨p7, 3, none⟩) k2).trans f3; have nf4 := (Below.cell B2 (p := ⟨p7, 4, none⟩) k2).trans f4; have nf5 := (Below.cell B2 (p := ⟨p7, 5, none⟩) k2).trans f5; have ng0 := (Below.cell B2 (p := ⟨p9, 0, none⟩) k3).trans g0; have ng1 := (Below.cell B2 (p := ⟨p9, 1, none⟩) k3).trans g1; have ng2 := (Below.cell B2 (p := ⟨p9, 2, none⟩) k3).trans g2; have ng3 := (Below.cell B2 (p := ⟨p9, 3, none⟩) k3).trans g3; have ng4 := (Below.cell B2 (p := ⟨p9, 4, none⟩) k3).trans g4; have ng5 := (Below.cell B2 (p := ⟨p9, 5, none⟩) k3).trans g5; have HB2 := Hd.mk B2; have k1' := Nat.lt_of_lt_of_le k1 B2.size; have k2' := Nat.lt_of_lt_of_le k2 B2.size; have k3' := Nat.lt_of_lt_of_le k3 B2.size; clear ho2 hb2 r2 B2) | (go_at_call 27; (with_reducible refine hsm.mono ?_); rintro e w' ⟨rfl, hg⟩; obtain ⟨n, os, rfl⟩ := hg.out; clear hg))
      all_goals
        go_wp2
        go_ret
        exact ⟨ret_bool (by simp), HBX.out.trans (HB2.out.trans (by repeat (first | with_reducible exact Bl.refl _ | with_reducible apply Bl.alloc | with_reducible apply Bl.grow | with_reducible apply Bl.sd | with_reducible apply Bl.drewN | with_reducible apply Bl.drew)))⟩
end Go.Proofs.Ytcknakbjiklklaa.L
