import Derived.Test.YtcknakbjiklklaaF19b
/- hopmeshref16.Check. -/
namespace Go.Proofs.Ytcknakbjiklklaa.F
open Go.RowKit Go.Sort Go.Proofs.Ytcknakbjiklklaa.B Go.Proofs.Ytcknakbjiklklaa.S
set_option linter.unusedVariables false
set_option linter.unusedSimpArgs false
set_option maxHeartbeats 4000000 in
theorem xcheck (nd len : Int) (A : Option Addr) (c : Nat) (l : List TC) (w : World) (hr : Rd w A l) (hc : l.length ≤ c) :
    Calls Try.prog 14 #[.agg #[.int .i64 nd, .int .i64 len, .slice A l.length c]] w fun e w' => e = .returned (.int .i64 (checkT nd len l)) ∧ Gr w w' := by
  have hm := mixed
  have hl := hr.1
  have HR := Hd.mk hr
  clear hr
  by_cases h1 : ¬ (0 ≤ nd ∧ nd ≤ 31) ∨ len < 1 ∨ len > 512
  · have hs : checkT nd len l = 2 := by unfold checkT; rw [if_pos h1]
    rw [hs]
    have hq : nd < 0 ∨ ¬ nd < 0 ∧ (32 ≤ nd ∨ ¬ 32 ≤ nd ∧ (len < 1 ∨ ¬ len < 1 ∧ 512 < len)) := by omega
    clear h1 hs
    rcases hq with h | ⟨h, h2 | ⟨h2, h3 | ⟨h3, h4⟩⟩⟩
    all_goals
      go_enter Try.func14, Try.ntmps14
      go_wp2
      go_ret
      exact ⟨rfl, (by repeat (first | exact Gr.refl _ | with_reducible apply Gr.alloc | with_reducible apply Gr.grow | with_reducible apply Gr.drewN | with_reducible apply Gr.drew))⟩
  · have gn1 : ¬ nd < 0 := by omega
    have gn2 : ¬ 32 ≤ nd := by omega
    have g1 : ¬ len < 1 := by omega
    have g2 : ¬ 512 < len := by omega
    by_cases h2 : l.length > 512
    · have hs : checkT nd len l = 8 := by unfold checkT; rw [if_neg h1, if_pos h2]
      rw [hs]
      have g3 : (512 : Int) < (l.length : Int) := by omega
      clear hs h1 h2
      go_enter Try.func14, Try.ntmps14
      go_wp2
      go_ret
      exact ⟨rfl, (by repeat (first | exact Gr.refl _ | with_reducible apply Gr.alloc | with_reducible apply Gr.grow | with_reducible apply Gr.drewN | with_reducible apply Gr.drew))⟩
    · have hs : checkT nd len l = checkF nd len none l := by unfold checkT; rw [if_neg h1, if_neg h2]
      rw [hs]
      have g3 : ¬ (512 : Int) < (l.length : Int) := by omega
      clear hs h1
      generalize hres : checkF nd len none l = res
      have HRes := Hd.mk hres
      clear hres
      go_enter Try.func14, Try.ntmps14
      go_upto_region 6 with fail
      generalize hW : World.alloc _ _ = W
      have HWe := Hd.mk hW
      clear hW
      have b0 : W.cell? ⟨w.heap.size, 0, none⟩ = some (.int .i64 nd) := by rw [← HWe.out]; go_simp
      have b1 : W.cell? ⟨w.heap.size, 1, none⟩ = some (.int .i64 len) := by rw [← HWe.out]; go_simp
      have b2 : W.cell? ⟨w.heap.size, 2, none⟩ = some (.slice A l.length c) := by rw [← HWe.out]; go_simp
      have G0 : Gr w W := by rw [← HWe.out]; exact (by repeat (first | exact Gr.refl _ | with_reducible apply Gr.alloc | with_reducible apply Gr.grow | with_reducible apply Gr.drewN | with_reducible apply Gr.drew))
      have z0 := World.block_lt_of_cell? W _ b0
      dsimp only at z0
      have HR2 := Hd.mk (HR.out.gr G0)
      have HG0 := Hd.mk G0
      clear HWe G0 HR
      go_loopg [3, 4] l.length (fun gg s3 s4 wr => ∃ k : Nat, k ≤ l.length ∧ l.length - k ≤ gg ∧ s3 = .int .i64 k ∧ Hd (Gr W wr) ∧ Hd (res = checkF nd len (prevOf l k) (l.drop k)))
      case atStart => exact ⟨0, Nat.zero_le _, by omega, rfl, ⟨Gr.refl _⟩, ⟨HRes.out.symm⟩⟩
      case round =>
        obtain ⟨k, hk, hg, rfl, GW, CF⟩ := hrel
        by_cases hlt : k < l.length
        · obtain ⟨b, off, rfl, hb, hcell⟩ := HR2.out.2 (by omega)
          have hbl := GW.out.below
          have o := fun (q : Nat) => hbl.cell (p := ⟨w.heap.size, q, none⟩) z0
          have o2 := fun (q : Nat) => hbl.cell (p := ⟨b, q, none⟩) hb
          have d0 := (o 0).trans b0
          have d1 := (o 1).trans b1
          have d2 := (o 2).trans b2
          have hcell' : ∀ j, j < l.length → C43 wr b (off + j * 6) (nth l j) := fun j hj => by
            unfold C43
            simp only [o2]
            exact hcell j hj
          have zt : w.heap.size < wr.heap.size := World.block_lt_of_cell? wr _ d0
          obtain ⟨k0, k1, k2, k3, k4, k5⟩ := hcell' k hlt
          have zb : b < wr.heap.size := World.block_lt_of_cell? wr _ k0
          have hltz : (k : Int) < (l.length : Int) := by omega
          have hkz : (0 : Int) ≤ (k : Int) := by omega
          have hbad := checkF_bad (n := nd) (len := len) hlt
          have hfirst := checkF_first (n := nd) (len := len) (l := l) (Nat.lt_of_le_of_lt (Nat.zero_le k) hlt)
          have hord := checkF_order (n := nd) (len := len) hlt
          have hnext := checkF_next (n := nd) (len := len) hlt
          have HCel := Hd.mk hcell'
          clear hbl o o2 hcell hcell'
          generalize hx : nth l k = x at *
          obtain ⟨x0, x1, x2, x3, x4, x5⟩ := x
          have HX := Hd.mk hx
          dsimp only at *
          have hfo := qcell nd len (.slice (some ⟨b, off, none⟩) l.length c) x0 x1 x2 x4 x5 x3 ⟨_, _, _, rfl⟩
          generalize hq : formS ⟨x0, x1, x2, x3, x4, x5⟩ nd len = q at *
          have HBad := Hd.mk hbad
          have HFirst := Hd.mk hfirst
          have HOrd := Hd.mk hord
          have HNext := Hd.mk hnext
          have HQ := Hd.mk hq
          clear hbad hfirst hord hnext hq hx
          have hcm : 0 < k → True := fun _ => trivial
          go_upto_region 8 with fail
          go_quiet_grown (first | (go_at_call 46; with_reducible exact quiet_grown rfl (hfo _)))
          generalize hW5 : Sort.grow _ _ = W5
          have G5 : Gr wr W5 := by rw [← hW5]; exact (by repeat (first | exact Gr.refl _ | with_reducible apply Gr.alloc | with_reducible apply Gr.grow | with_reducible apply Gr.drewN | with_reducible apply Gr.drew))
          have o := fun (q : Nat) => G5.below.cell (p := ⟨w.heap.size, q, none⟩) zt
          have o2 := fun (q : Nat) => G5.below.cell (p := ⟨b, q, none⟩) zb
          have f2 := (o 2).trans d2
          have e0 := (o2 _).trans k0
          have e1 := (o2 _).trans k1
          have e2 := (o2 _).trans k2
          have e3 := (o2 _).trans k3
          have e4 := (o2 _).trans k4
          have e5 := (o2 _).trans k5
          have y1 : w.heap.size < W5.heap.size := World.block_lt_of_cell? W5 _ f2
          have y2 : b < W5.heap.size := World.block_lt_of_cell? W5 _ e0
          have G6 := Hd.mk (HG0.out.trans (GW.out.trans G5))
          have G7 := Hd.mk (GW.out.trans G5)
          have HCel2 : Hd (∀ j, j < l.length → C43 W5 b (off + j * 6) (nth l j)) := ⟨fun j hj => by
            unfold C43
            simp only [o2]
            exact HCel.out j hj⟩
          clear hW5 G5 o o2 d0 d1 d2 k0 k1 k2 k3 k4 k5 HCel zt zb HG0 GW hcm
          by_cases hq0 : q = 0
          · subst hq0
            rcases Nat.eq_zero_or_pos k with h0 | h0
            · subst h0
              go_upto_region 11 with fail
              go_quiet (fail)
              go_wp2
              go_roundg (l.length - 1)
              case measure => omega
              case rel => exact ⟨1, by omega, by omega, by go_num, ⟨G7.out.trans (by repeat (first | exact Gr.refl _ | with_reducible apply Gr.alloc | with_reducible apply Gr.grow | with_reducible apply Gr.drewN | with_reducible apply Gr.drew))⟩, ⟨by rw [CF.out, HFirst.out (by first | trivial | (rw [HX.out]; exact HQ.out))]⟩⟩
            · obtain ⟨j, rfl⟩ : ∃ j, k = j + 1 := ⟨k - 1, by omega⟩
              go_upto_region 11 with fail
              obtain ⟨p0, p1, p2, p3, p4, p5⟩ := HCel2.out j (by omega)
              have hjl : (j : Int) < (l.length : Int) := by omega
              have hj0 : (0 : Int) ≤ (j : Int) := by omega
              have hj1 : (j : Int) + 1 < (l.length : Int) := by omega
              have hj2 : (0 : Int) ≤ (j : Int) + 1 := by omega
              have hl' := HR2.out.1
              have z1 : IntKind.i64.wrap (j : Int) = (j : Int) := IntWalk.i64_in _ (by omega)
              have z2 : decide ((0 : Int) < (j : Int) + 1) = true := decide_eq_true (by omega)
              generalize hy : nth l j = y at *
              obtain ⟨v0, v1, v2, v3, v4, v5⟩ := y
              have HY := Hd.mk hy
              clear hy HCel2
              dsimp only at *
              have hcm := qless v0 v1 v2 v4 v5 x0 x1 x2 x4 x5 v3 x3
              have hcn := cmpT_neg ⟨v0, v1, v2, v3, v4, v5⟩ ⟨x0, x1, x2, x3, x4, x5⟩
              generalize hqq : cmpT ⟨v0, v1, v2, v3, v4, v5⟩ ⟨x0, x1, x2, x3, x4, x5⟩ = cq at *
              have HCq := Hd.mk hqq
              clear hqq
              by_cases hles : lessT ⟨v0, v1, v2, v3, v4, v5⟩ ⟨x0, x1, x2, x3, x4, x5⟩
              · rw [decide_eq_true hles] at hcm
                have HNg := Hd.mk (hcn.2 hles)
                clear hcn hles
                go_quiet_grown (first | (go_at_call 47; with_reducible exact quiet_grown rfl (hcm _)))
                go_wp2
                go_roundg (l.length - (j + 2))
                case measure => omega
                case rel => exact ⟨j + 2, by omega, by omega, by go_num, ⟨G7.out.trans (by repeat (first | exact Gr.refl _ | with_reducible apply Gr.alloc | with_reducible apply Gr.grow | with_reducible apply Gr.drewN | with_reducible apply Gr.drew))⟩, ⟨by rw [CF.out, HNext.out (by omega) (by first | trivial | (rw [HX.out]; exact HQ.out)) (by rw [Nat.add_sub_cancel, HY.out, HCq.out]; have := HNg.out; omega)]⟩⟩
              · rw [decide_eq_false hles] at hcm
                have HNg : Hd (¬ cq < 0) := ⟨fun h => hles (hcn.1 h)⟩
                clear hcn hles
                go_quiet_grown (first | (go_at_call 47; with_reducible exact quiet_grown rfl (hcm _)))
                go_wp2
                go_ret
                exact ⟨ret_i (by rw [CF.out, HOrd.out (by omega) (by first | trivial | (rw [HX.out]; exact HQ.out)) (by rw [Nat.add_sub_cancel, HY.out, HCq.out]; have := HNg.out; omega)]), G6.out.trans (by repeat (first | exact Gr.refl _ | with_reducible apply Gr.alloc | with_reducible apply Gr.grow | with_reducible apply Gr.drewN | with_reducible apply Gr.drew))⟩
          · go_wp2
            go_ret
            exact ⟨ret_i (by rw [CF.out, HBad.out hq0]), G6.out.trans (by repeat (first | exact Gr.refl _ | with_reducible apply Gr.alloc | with_reducible apply Gr.grow | with_reducible apply Gr.drewN | with_reducible apply Gr.drew))⟩
        · obtain rfl : k = l.length := by omega
          have hltz : ¬ ((l.length : Int) < (l.length : Int)) := by omega
          have d2 := (GW.out.below.cell (p := ⟨w.heap.size, 2, none⟩) z0).trans b2
          have zt : w.heap.size < wr.heap.size := World.block_lt_of_cell? wr _ d2
          go_wp2
          go_ret
          exact ⟨ret_i (by rw [CF.out, checkF_end]), HG0.out.trans (GW.out.trans (by repeat (first | exact Gr.refl _ | with_reducible apply Gr.alloc | with_reducible apply Gr.grow | with_reducible apply Gr.drewN | with_reducible apply Gr.drew)))⟩
end Go.Proofs.Ytcknakbjiklklaa.F
