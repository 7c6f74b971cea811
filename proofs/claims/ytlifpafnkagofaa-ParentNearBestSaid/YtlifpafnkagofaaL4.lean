import Derived.Test.YtlifpafnkagofaaL1
import Derived.Test.YtlifpafnkagofaaS12
import Derived.Test.YtlifpafnkagofaaF20
/- The law ParentNearBest, walked. -/
namespace Go.Proofs.Ytlifpafnkagofaa.L
open Go.RowKit Go.Sort Go.Proofs.Ytlifpafnkagofaa.B Go.Proofs.Ytlifpafnkagofaa.S Go.Proofs.Ytlifpafnkagofaa.F
set_option linter.unusedVariables false
set_option linter.unusedSimpArgs false
set_option maxHeartbeats 4000000 in
set_option maxRecDepth 100000 in
theorem lawNear (A : Option Addr) (c : Nat) (l : List Nb) (a0 a1 a2 a3 a4 a5 mg : Int) (w : World) (hr : Rd w A l) (hc : l.length ≤ c) (hm0 : 0 ≤ mg) (hm1 : mg ≤ 65535) :
    Calls Try.prog 6 #[.slice A l.length c, .agg #[.int .i64 a0, .int .i64 a1, .int .i64 a2, .int .i64 a3, .int .i64 a4, .int .i64 a5], .int .u16 mg] w fun e w' => e = .returned (.bool true) ∧ Bl w w' := by
  have hA := awake_
  have hF := fun W => qfew A c l W hr.1
  have hC : ∀ W, Bl w W → _ := fun W h => pcheck A c l W (hr.bl h) hc
  have hQ := xcheck a0 a1 a2 a3 a4 a5
  have hwr : IntKind.i64.wrap mg = mg := IntWalk.i64_in _ (by omega)
  by_cases hgo : decide (l.length ≤ 40) = true ∧ checkL l = 0 ∧ checkR ⟨a0, a1, a2, a3, a4, a5⟩ = 0 ∧ a0 ≠ 0
  case neg =>
    clear hr
    generalize decide (l.length ≤ 40) = q0 at *
    generalize checkL l = q1 at *
    generalize checkR ⟨a0, a1, a2, a3, a4, a5⟩ = q2 at *
    have HG := Hd.mk hgo
    clear hgo
    cases q0 with
    | false =>
      go_enter Try.func6, Try.ntmps6
      go_wp2_with (first | (go_at_call 11; (with_reducible refine (hA _).mono ?_); rintro e w' ⟨rfl, hg⟩; obtain ⟨n, os, rfl⟩ := hg.out; clear hg) | (go_at_call 12; (with_reducible refine (hF _).mono ?_); rintro e w' ⟨rfl, rfl⟩) | (go_at_call 17; (with_reducible refine (hC _ (by repeat (first | exact Bl.refl _ | with_reducible apply Bl.alloc | with_reducible apply Bl.grow | with_reducible apply Bl.sd | with_reducible apply Bl.drewN | with_reducible apply Bl.drew))).mono ?_); rintro e w' ⟨rfl, hg⟩; obtain ⟨n, os, rfl⟩ := hg.out; clear hg) | (go_at_call 19; (with_reducible refine (hQ _).mono ?_); rintro e w' ⟨rfl, hg⟩; obtain ⟨n, os, rfl⟩ := hg.out; clear hg))
      all_goals
        go_ret
        exact ⟨rfl, (by repeat (first | exact Bl.refl _ | with_reducible apply Bl.alloc | with_reducible apply Bl.grow | with_reducible apply Bl.sd | with_reducible apply Bl.drewN | with_reducible apply Bl.drew))⟩
    | true =>
      by_cases h1 : q1 = 0
      · subst h1
        by_cases h2 : q2 = 0
        · subst h2
          obtain rfl : a0 = 0 := Decidable.byContradiction fun e => HG.out ⟨rfl, rfl, rfl, e⟩
          clear HG
          go_enter Try.func6, Try.ntmps6
          go_wp2_with (first | (go_at_call 11; (with_reducible refine (hA _).mono ?_); rintro e w' ⟨rfl, hg⟩; obtain ⟨n, os, rfl⟩ := hg.out; clear hg) | (go_at_call 12; (with_reducible refine (hF _).mono ?_); rintro e w' ⟨rfl, rfl⟩) | (go_at_call 17; (with_reducible refine (hC _ (by repeat (first | exact Bl.refl _ | with_reducible apply Bl.alloc | with_reducible apply Bl.grow | with_reducible apply Bl.sd | with_reducible apply Bl.drewN | with_reducible apply Bl.drew))).mono ?_); rintro e w' ⟨rfl, hg⟩; obtain ⟨n, os, rfl⟩ := hg.out; clear hg) | (go_at_call 19; (with_reducible refine (hQ _).mono ?_); rintro e w' ⟨rfl, hg⟩; obtain ⟨n, os, rfl⟩ := hg.out; clear hg))
          all_goals
            go_ret
            exact ⟨rfl, (by repeat (first | exact Bl.refl _ | with_reducible apply Bl.alloc | with_reducible apply Bl.grow | with_reducible apply Bl.sd | with_reducible apply Bl.drewN | with_reducible apply Bl.drew))⟩
        · clear HG
          go_enter Try.func6, Try.ntmps6
          go_wp2_with (first | (go_at_call 11; (with_reducible refine (hA _).mono ?_); rintro e w' ⟨rfl, hg⟩; obtain ⟨n, os, rfl⟩ := hg.out; clear hg) | (go_at_call 12; (with_reducible refine (hF _).mono ?_); rintro e w' ⟨rfl, rfl⟩) | (go_at_call 17; (with_reducible refine (hC _ (by repeat (first | exact Bl.refl _ | with_reducible apply Bl.alloc | with_reducible apply Bl.grow | with_reducible apply Bl.sd | with_reducible apply Bl.drewN | with_reducible apply Bl.drew))).mono ?_); rintro e w' ⟨rfl, hg⟩; obtain ⟨n, os, rfl⟩ := hg.out; clear hg) | (go_at_call 19; (with_reducible refine (hQ _).mono ?_); rintro e w' ⟨rfl, hg⟩; obtain ⟨n, os, rfl⟩ := hg.out; clear hg))
          all_goals
            go_ret
            exact ⟨rfl, (by repeat (first | exact Bl.refl _ | with_reducible apply Bl.alloc | with_reducible apply Bl.grow | with_reducible apply Bl.sd | with_reducible apply Bl.drewN | with_reducible apply Bl.drew))⟩
      · clear HG
        go_enter Try.func6, Try.ntmps6
        go_wp2_with (first | (go_at_call 11; (with_reducible refine (hA _).mono ?_); rintro e w' ⟨rfl, hg⟩; obtain ⟨n, os, rfl⟩ := hg.out; clear hg) | (go_at_call 12; (with_reducible refine (hF _).mono ?_); rintro e w' ⟨rfl, rfl⟩) | (go_at_call 17; (with_reducible refine (hC _ (by repeat (first | exact Bl.refl _ | with_reducible apply Bl.alloc | with_reducible apply Bl.grow | with_reducible apply Bl.sd | with_reducible apply Bl.drewN | with_reducible apply Bl.drew))).mono ?_); rintro e w' ⟨rfl, hg⟩; obtain ⟨n, os, rfl⟩ := hg.out; clear hg) | (go_at_call 19; (with_reducible refine (hQ _).mono ?_); rintro e w' ⟨rfl, hg⟩; obtain ⟨n, os, rfl⟩ := hg.out; clear hg))
        all_goals
          go_ret
          exact ⟨rfl, (by repeat (first | exact Bl.refl _ | with_reducible apply Bl.alloc | with_reducible apply Bl.grow | with_reducible apply Bl.sd | with_reducible apply Bl.drewN | with_reducible apply Bl.drew))⟩
  case pos =>
    obtain ⟨hf, h1, h2, h3⟩ := hgo
    have hsel := sel_main (mg := mg) ⟨h1, h2⟩ ((win_iff _ _ _).2 ⟨hm0, hm1⟩) h3
    have hnb := fun b => near_best (mg := mg) (b := b) h1 h2 h3 hm0
    have hnc := fun h h' j => near_change (mg := mg) (j := j) h1 h2 h3 hm0 h h'
    obtain ⟨_, hok, hso⟩ := checkL_ok h1
    have hbd := (checkR_ok _).1 (steady (mg := mg) h1 h2 h3 hm0).1
    generalize r2S (r1S ⟨a0, a1, a2, a3, a4, a5⟩ l) l mg = b at *
    obtain ⟨b0, b1, b2, b3, b4, b5⟩ := b
    have hP : ∀ W, Bl w W → _ := fun W h => pselect A c l a0 a1 a2 a3 a4 a5 mg W (hr.bl h) hc
    have hB : ∀ W, Bl w W → _ := fun W h => pBest A c l b0 b1 b2 b3 b4 b5 W (hr.bl h) hc
    have hI : ∀ W, Bl w W → W.cell? ⟨w.heap.size, 2, none⟩ = some (.int .i64 a2) → _ := fun W h hcell => pindexf 22 #[.pointer (some ⟨w.heap.size, 0, none⟩)] eq22 (isN a2) A c l W (hr.bl h) hc (fun x X hX => clo22 w.heap.size a2 x X (by rw [hX.below.cell (p := ⟨w.heap.size, 2, none⟩) (World.block_lt_of_cell? W _ hcell)]; exact hcell))
    rw [hsel] at hP
    rw [hf] at hF
    rw [h1] at hC
    rw [h2] at hQ
    have HR := Hd.mk hr
    have HNb := Hd.mk hnb
    have HBd : Hd (0 ≤ b4 ∧ b4 ≤ 65535) := ⟨by dsimp only at hbd; omega⟩
    clear hbd
    have HNc := Hd.mk hnc
    have HOk := Hd.mk hok
    have H3 : (a0 == 0) = false := by simp [h3]
    dsimp only [vR] at *
    clear hsel hnb hnc hok hso h1 h2 h3 hf hr
    go_enter Try.func6, Try.ntmps6
    go_upto_region 6 with (first | (go_at_call 11; (with_reducible refine (hA _).mono ?_); rintro e w' ⟨rfl, hg⟩; obtain ⟨n1, os1, rfl⟩ := hg.out; clear hg) | (go_at_call 12; (with_reducible refine (hF _).mono ?_); rintro e w' ⟨rfl, rfl⟩) | (go_at_call 17; (with_reducible refine (hC _ (by repeat (first | exact Bl.refl _ | with_reducible apply Bl.alloc | with_reducible apply Bl.grow | with_reducible apply Bl.sd | with_reducible apply Bl.drewN | with_reducible apply Bl.drew))).mono ?_); rintro e w' ⟨rfl, hg⟩; obtain ⟨n2, os2, rfl⟩ := hg.out; clear hg) | (go_at_call 19; (with_reducible refine (hQ _).mono ?_); rintro e w' ⟨rfl, hg⟩; obtain ⟨n3, os3, rfl⟩ := hg.out; clear hg) | (go_at_call 15; (with_reducible refine (hP _ (by repeat (first | exact Bl.refl _ | with_reducible apply Bl.alloc | with_reducible apply Bl.grow | with_reducible apply Bl.sd | with_reducible apply Bl.drewN | with_reducible apply Bl.drew))).mono ?_); rintro e w' ⟨rfl, hg⟩; obtain ⟨n4, os4, rfl⟩ := hg.out; clear hg))
    generalize hW : World.alloc _ _ = W
    have HWe := Hd.mk hW
    clear hW
    have g0 : W.cell? ⟨w.heap.size, 0, none⟩ = some (.int .i64 a0) := by rw [← HWe.out]; go_simp
    have g1 : W.cell? ⟨w.heap.size, 1, none⟩ = some (.int .i64 a1) := by rw [← HWe.out]; go_simp
    have g2 : W.cell? ⟨w.heap.size, 2, none⟩ = some (.int .i64 a2) := by rw [← HWe.out]; go_simp
    have g3 : W.cell? ⟨w.heap.size, 3, none⟩ = some (.int .i64 a3) := by rw [← HWe.out]; go_simp
    have g4 : W.cell? ⟨w.heap.size, 4, none⟩ = some (.int .i64 a4) := by rw [← HWe.out]; go_simp
    have g5 : W.cell? ⟨w.heap.size, 5, none⟩ = some (.int .i64 a5) := by rw [← HWe.out]; go_simp
    have h0 : W.cell? ⟨w.heap.size + (1 + (os1.size + (os2.size + (os3.size + os4.size)))), 0, none⟩ = some (.int .i64 b0) := by rw [← HWe.out]; go_simp
    have h1 : W.cell? ⟨w.heap.size + (1 + (os1.size + (os2.size + (os3.size + os4.size)))), 1, none⟩ = some (.int .i64 b1) := by rw [← HWe.out]; go_simp
    have h2 : W.cell? ⟨w.heap.size + (1 + (os1.size + (os2.size + (os3.size + os4.size)))), 2, none⟩ = some (.int .i64 b2) := by rw [← HWe.out]; go_simp
    have h3 : W.cell? ⟨w.heap.size + (1 + (os1.size + (os2.size + (os3.size + os4.size)))), 3, none⟩ = some (.int .i64 b3) := by rw [← HWe.out]; go_simp
    have h4 : W.cell? ⟨w.heap.size + (1 + (os1.size + (os2.size + (os3.size + os4.size)))), 4, none⟩ = some (.int .i64 b4) := by rw [← HWe.out]; go_simp
    have h5 : W.cell? ⟨w.heap.size + (1 + (os1.size + (os2.size + (os3.size + os4.size)))), 5, none⟩ = some (.int .i64 b5) := by rw [← HWe.out]; go_simp
    have hz : w.heap.size < W.heap.size := by rw [← HWe.out]; first | (go_simp; done) | (simp [go_sem]; omega) | (go_simp; omega)
    have hz7 : w.heap.size + (1 + (os1.size + (os2.size + (os3.size + os4.size)))) < W.heap.size := by rw [← HWe.out]; first | (go_simp; done) | (simp [go_sem]; omega) | (go_simp; omega)
    have hB5 : Bl w W := by rw [← HWe.out]; exact (by repeat (first | exact Bl.refl _ | with_reducible apply Bl.alloc | with_reducible apply Bl.grow | with_reducible apply Bl.sd | with_reducible apply Bl.drewN | with_reducible apply Bl.drew))
    have hb' := fun X (h : Bl W X) => hB X (hB5.trans h)
    have hi' := fun X (h : Bl W X) => hI X (hB5.trans h) (by rw [Below.cell h (p := ⟨w.heap.size, 2, none⟩) hz]; exact g2)
    generalize hbp : bestP ⟨b0, b1, b2, b3, b4, b5⟩ l = bp at *
    obtain ⟨bi, bo⟩ := bp
    dsimp only at *
    have HBp := Hd.mk hbp
    have HB5 := Hd.mk hB5
    clear hP HWe hB5 hB hI hbp
    go_upto_if 53 with (first | (go_at_call 13; (with_reducible refine (hb' _ (by repeat (first | exact Bl.refl _ | with_reducible apply Bl.alloc | with_reducible apply Bl.grow | with_reducible apply Bl.sd | with_reducible apply Bl.drewN | with_reducible apply Bl.drew))).mono ?_); rintro e w' ⟨rfl, hg⟩; obtain ⟨n5, os5, rfl⟩ := hg.out; clear hg))
    generalize hX : Sort.grow _ _ = X
    have hBX : Bl W X := by rw [← hX]; exact (by repeat (first | exact Bl.refl _ | with_reducible apply Bl.alloc | with_reducible apply Bl.grow | with_reducible apply Bl.sd | with_reducible apply Bl.drewN | with_reducible apply Bl.drew))
    have cel : ∀ {a : Addr} {v : Value}, W.cell? a = some v → X.cell? a = some v := fun h => (Below.cell hBX (World.block_lt_of_cell? W _ h)).trans h
    have HBX := Hd.mk hBX
    have Cel := Hd.mk @cel
    clear hX cel hBX
    go_cut [] (fun wx => Hd (Bl W wx))
    case first =>
      cases bo with
      | false =>
        go_wp2
        go_meet
        exact HBX
      | true =>
        obtain ⟨j, hj, rfl, k1, k2, k3⟩ := HNb.out _ rfl
        obtain ⟨b, off, rfl, hb, hcell⟩ := HR.out.2 (by omega)
        obtain ⟨e0, e1, e2, e3, e4, e5⟩ := hcell j hj
        have hok := (okN_iff (nth l j)).1 (HOk.out j hj)
        have hltz : (j : Int) < (l.length : Int) := by omega
        have hjz : (0 : Int) ≤ (j : Int) := by omega
        clear hcell
        generalize nth l j = x at *
        obtain ⟨x0, x1, x2, x3, ⟨x4, x5⟩⟩ := x
        dsimp only at *
        have hco := pcost x4 x5 (by omega)
        have hcb := costS_bd ⟨x4, x5⟩
        generalize costS ⟨x4, x5⟩ = co at *
        have hBw := HB5.out.trans HBX.out
        have fc : ∀ {o : Nat} {v : Value}, w.cell? ⟨b, o, none⟩ = some v → X.cell? ⟨b, o, none⟩ = some v := fun h => (Below.cell hBw (p := ⟨b, _, none⟩) hb).trans h
        have f1 := fc e1
        have f2 := fc e2
        have f4 := fc e4
        have f5 := fc e5
        have p1 := Cel.out h1
        have p2 := Cel.out h2
        have p4 := Cel.out h4
        have hxb : b < X.heap.size := Nat.lt_of_lt_of_le hb hBw.size
        have hxa : w.heap.size + (1 + (os1.size + (os2.size + (os3.size + os4.size)))) < X.heap.size := Nat.lt_of_lt_of_le hz7 HBX.out.size
        have w1 : IntKind.i64.wrap (x2 + co) = x2 + co := IntWalk.i64_in _ (by omega)
        have w2 : IntKind.i64.wrap (x2 + co + mg) = x2 + co + mg := IntWalk.i64_in _ (by omega)
        have d1 : decide (b2 < 0) = false := decide_eq_false (by omega)
        have d2 : decide (x1 > b1) = false := decide_eq_false (by omega)
        have d3 : decide (b4 > x2 + co + mg) = false := decide_eq_false (by omega)
        have d4 : decide ((j : Int) < 0) = false := decide_eq_false (by omega)
        have d5 : decide ((j : Int) ≥ (l.length : Int)) = false := decide_eq_false (by omega)
        have HOk2 := Hd.mk hok
        have HK := Hd.mk (And.intro k1 (And.intro k2 k3))
        clear hok k1 k2 k3 fc hBw g0 g1 g2 g3 g4 g5 h0 h1 h2 h3 h4 h5 e0 e1 e2 e3 e4 e5 hcb
        have hm := mixed
        by_cases hxe : x1 = b1
        · subst hxe
          go_wp2
          go_quiet_grown (first | (go_at_call 20; exact quiet_grown rfl (hco _)))
          go_wp2
          go_quiet (fail)
          go_wp2
          go_meet
          exact ⟨HBX.out.trans (by repeat (first | exact Bl.refl _ | with_reducible apply Bl.alloc | with_reducible apply Bl.grow | with_reducible apply Bl.sd | with_reducible apply Bl.drewN | with_reducible apply Bl.drew))⟩
        · have d6 : (x1 == b1) = false := beq_eq_false_iff_ne.2 hxe
          go_wp2
          go_quiet_grown (first | (go_at_call 20; exact quiet_grown rfl (hco _)))
          go_wp2
          go_quiet (fail)
          go_wp2
          go_meet
          exact ⟨HBX.out.trans (by repeat (first | exact Bl.refl _ | with_reducible apply Bl.alloc | with_reducible apply Bl.grow | with_reducible apply Bl.sd | with_reducible apply Bl.drewN | with_reducible apply Bl.drew))⟩
    case rest =>
      have cel : ∀ {a : Addr} {v : Value}, W.cell? a = some v → _ := fun h => (Below.cell hcut.out (World.block_lt_of_cell? W _ h)).trans h
      have p0 := cel g0
      have p1 := cel g1
      have p2 := cel g2
      have p3 := cel g3
      have p4 := cel g4
      have p5 := cel g5
      have q1 := cel h1
      have q2 := cel h2
      have q4 := cel h4
      have hxz := Nat.lt_of_lt_of_le hz hcut.out.size
      have hxa := Nat.lt_of_lt_of_le hz7 hcut.out.size
      clear cel g0 g1 g2 g3 g4 g5 h0 h1 h2 h3 h4 h5 hz hz7 HNb HBp Cel HBX
      by_cases hch : b2 = a2
      · have hcb : (b2 != a2) = false := by simp [hch]
        clear hch
        go_wp2
        go_ret
        exact ⟨rfl, HB5.out.trans hcut.out⟩
      · have hcb : (b2 != a2) = true := by simp [hch]
        by_cases hp : a2 < 0
        · go_wp2
          go_ret
          exact ⟨rfl, HB5.out.trans hcut.out⟩
        · have hnc := HNc.out hch (by omega)
          have hiw := hi' _ hcut.out
          clear hi' hch HNc
          rcases idxF_spec (isN a2) l 0 with ⟨ei, _⟩ | ⟨j, hj, ei, hpj, _⟩
          · rw [ei] at hiw
            clear ei hnc
            go_wp2_with (first | (go_at_call 21; (with_reducible refine hiw.mono ?_); rintro e w' ⟨rfl, hg⟩; obtain ⟨n, os, rfl⟩ := hg.out; clear hg))
            go_ret
            exact ⟨rfl, HB5.out.trans (hcut.out.trans (by repeat (first | exact Bl.refl _ | with_reducible apply Bl.alloc | with_reducible apply Bl.grow | with_reducible apply Bl.sd | with_reducible apply Bl.drewN | with_reducible apply Bl.drew)))⟩
          · rw [ei, Nat.zero_add] at hiw
            obtain ⟨u, eu, hu⟩ := hnc j hj (by simpa [isN] using hpj)
            clear ei hnc
            have hwl := HB5.out.trans hcut.out
            obtain ⟨b, off, rfl, hb, hcell⟩ := HR.out.2 (by omega)
            obtain ⟨e0, e1, e2, e3, e4, e5⟩ := hcell j hj
            have hok := (okN_iff (nth l j)).1 (HOk.out j hj)
            have hltz : (j : Int) < (l.length : Int) := by omega
            have hjz : (0 : Int) ≤ (j : Int) := by omega
            clear hcell hpj
            generalize nth l j = x at *
            obtain ⟨x0, x1, x2, x3, ⟨x4, x5⟩⟩ := x
            dsimp only at *
            have hco := pcost x4 x5 (by omega)
            have hup := rupdate a0 a1 a2 a3 a4 a5 x1 x2 (costS ⟨x4, x5⟩)
            rw [eu] at hup
            clear eu
            obtain ⟨u0, u1, u2, u3, u4, u5⟩ := u
            generalize costS ⟨x4, x5⟩ = co at *
            dsimp only [vR] at *
            have HU := Hd.mk hu
            have fc : ∀ {o : Nat} {v : Value}, w.cell? ⟨b, o, none⟩ = some v → wc.cell? ⟨b, o, none⟩ = some v := fun h => (Below.cell hwl (p := ⟨b, _, none⟩) hb).trans h
            have f1 := fc e1
            have f2 := fc e2
            have f4 := fc e4
            have f5 := fc e5
            have hbc : b < wc.heap.size := Nat.lt_of_lt_of_le hb hwl.size
            have HWl := Hd.mk hwl
            clear hok hu e0 e1 e2 e3 e4 e5 fc hwl hA hQ hF hC hb'
            have hm := mixed
            go_wp2_with (first | (go_at_call 21; (with_reducible refine hiw.mono ?_); rintro e w' ⟨rfl, hg⟩; obtain ⟨n, os, rfl⟩ := hg.out; clear hg))
            go_region_held3 (fun w' => w'.cell? ⟨w.heap.size, 0, none⟩ = some (.int .i64 a0) ∧ w'.cell? ⟨w.heap.size, 1, none⟩ = some (.int .i64 a1) ∧ w'.cell? ⟨w.heap.size, 2, none⟩ = some (.int .i64 a2) ∧ w'.cell? ⟨w.heap.size, 3, none⟩ = some (.int .i64 a3) ∧ w'.cell? ⟨w.heap.size, 4, none⟩ = some (.int .i64 a4) ∧ w'.cell? ⟨w.heap.size, 5, none⟩ = some (.int .i64 a5) ∧ w'.cell? ⟨b, off + j * 6 + 1, none⟩ = some (.int .i64 x1) ∧ w'.cell? ⟨b, off + j * 6 + 2, none⟩ = some (.int .i64 x2) ∧ w'.cell? ⟨b, off + j * 6 + 4, none⟩ = some (.int .i64 x4) ∧ w'.cell? ⟨b, off + j * 6 + 5, none⟩ = some (.int .i64 x5)) ((go_simp; done)) (first | (go_at_call 20; (with_reducible refine (hco _).mono ?_); rintro e w' ⟨rfl, hg⟩; obtain ⟨n, os, rfl⟩ := hg.out; clear hg) | (go_at_call 23; (with_reducible refine (hup _).mono ?_); rintro e w' ⟨rfl, hg⟩; obtain ⟨n, os, rfl⟩ := hg.out; clear hg))
            all_goals
              have hbd := HBd.out
              have w3 : IntKind.i64.wrap (b4 + mg) = b4 + mg := IntWalk.i64_in _ (by omega)
              by_cases hu2 : u2 < 0
              · go_wp2
                go_ret
                exact ⟨rfl, HWl.out.trans (by repeat (first | exact Bl.refl _ | with_reducible apply Bl.alloc | with_reducible apply Bl.grow | with_reducible apply Bl.sd | with_reducible apply Bl.drewN | with_reducible apply Bl.drew))⟩
              · obtain ⟨v1, v2⟩ := HU.out (by omega)
                by_cases hv : b1 > u1
                · go_wp2
                  go_ret
                  exact ⟨rfl, HWl.out.trans (by repeat (first | exact Bl.refl _ | with_reducible apply Bl.alloc | with_reducible apply Bl.grow | with_reducible apply Bl.sd | with_reducible apply Bl.drewN | with_reducible apply Bl.drew))⟩
                · have hv2 : b4 + mg < u4 := by omega
                  go_wp2
                  go_ret
                  exact ⟨ret_bool (by first | rfl | (simp; done) | (simp; omega)), HWl.out.trans (by repeat (first | exact Bl.refl _ | with_reducible apply Bl.alloc | with_reducible apply Bl.grow | with_reducible apply Bl.sd | with_reducible apply Bl.drewN | with_reducible apply Bl.drew))⟩
end Go.Proofs.Ytlifpafnkagofaa.L
