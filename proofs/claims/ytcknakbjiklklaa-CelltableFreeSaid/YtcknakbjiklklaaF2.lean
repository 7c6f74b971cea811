import Derived.Test.YtcknakbjiklklaaF1b
/- Lists of cells that are read; celltable.Check. -/
namespace Go.Proofs.Ytcknakbjiklklaa.F
open Go.RowKit Go.Sort Go.Proofs.Ytcknakbjiklklaa.B Go.Proofs.Ytcknakbjiklklaa.S
set_option linter.unusedVariables false
set_option linter.unusedSimpArgs false
/-- A cell's six cells. -/
def C43 (w : World) (b o : Nat) (x : TC) : Prop :=
  w.cell? ⟨b, o, none⟩ = some (.int .i64 x.sl) ∧ w.cell? ⟨b, o + 1, none⟩ = some (.int .i64 x.off) ∧ w.cell? ⟨b, o + 2, none⟩ = some (.int .i64 x.ki) ∧
  w.cell? ⟨b, o + 3, none⟩ = some (.bool x.se) ∧ w.cell? ⟨b, o + 4, none⟩ = some (.int .i64 x.pe) ∧ w.cell? ⟨b, o + 5, none⟩ = some (.int .i64 x.fl)
/-- A list of cells that is read. -/
def Rd (w : World) (A : Option Addr) (l : List TC) : Prop :=
  l.length ≤ 9223372036854775807 ∧ (0 < l.length → ∃ b off, A = some ⟨b, off, none⟩ ∧ b < w.heap.size ∧ ∀ j, j < l.length → C43 w b (off + j * 6) (nth l j))
theorem Rd.bl {w W : World} {A : Option Addr} {l : List TC} (h : Rd w A l) (hg : Bl w W) : Rd W A l := by
  refine ⟨h.1, fun hl => ?_⟩
  obtain ⟨b, off, e, hb, hc⟩ := h.2 hl
  refine ⟨b, off, e, Nat.lt_of_lt_of_le hb hg.size, fun j hj => ?_⟩
  have hf : ∀ o, W.cell? ⟨b, o, none⟩ = w.cell? ⟨b, o, none⟩ := fun o => Below.cell hg (p := ⟨b, o, none⟩) hb
  unfold C43
  simp only [hf]
  exact hc j hj
theorem Rd.gr {w W : World} {A : Option Addr} {l : List TC} (h : Rd w A l) (hg : Gr w W) : Rd W A l := h.bl hg.bl
set_option maxHeartbeats 4000000 in
theorem tcheck (nd len : Int) (A : Option Addr) (c : Nat) (l : List TC) (w : World) (hr : Rd w A l) (hc : l.length ≤ c) :
    Calls Try.prog 13 #[.agg #[.int .i64 nd, .int .i64 len, .slice A l.length c]] w fun e w' => e = .returned (.int .i64 (checkT nd len l)) ∧ Gr w w' := by
  have hm := mixed
  have hl := hr.1
  have HR := Hd.mk hr
  clear hr
  have HN := cnode nd
  by_cases h1 : ¬ (0 ≤ nd ∧ nd ≤ 31) ∨ len < 1 ∨ len > 512
  · have hs : checkT nd len l = 2 := by unfold checkT; rw [if_pos h1]
    rw [hs]
    have hq : win nd 0 31 = false ∨ win nd 0 31 = true ∧ (len < 1 ∨ ¬ len < 1 ∧ 512 < len) := by
      rw [win_iff, win_not]; omega
    clear h1 hs
    generalize win nd 0 31 = q at *
    rcases hq with rfl | ⟨rfl, h | ⟨h, h'⟩⟩
    all_goals
      go_enter Try.func13, Try.ntmps13
      go_wp2_with (go_at_call 43; (with_reducible refine (HN _).mono ?_); rintro e w' ⟨rfl, rfl⟩)
      go_ret
      exact ⟨rfl, (by repeat (first | exact Gr.refl _ | with_reducible apply Gr.alloc | with_reducible apply Gr.grow | with_reducible apply Gr.drewN | with_reducible apply Gr.drew))⟩
  · have hw : win nd 0 31 = true := by rw [win_iff]; omega
    rw [hw] at HN
    clear hw
    have g1 : ¬ len < 1 := by omega
    have g2 : ¬ 512 < len := by omega
    by_cases h2 : l.length > 512
    · have hs : checkT nd len l = 8 := by unfold checkT; rw [if_neg h1, if_pos h2]
      rw [hs]
      have g3 : (512 : Int) < (l.length : Int) := by omega
      clear hs h1 h2
      go_enter Try.func13, Try.ntmps13
      go_wp2_with (go_at_call 43; (with_reducible refine (HN _).mono ?_); rintro e w' ⟨rfl, rfl⟩)
      go_ret
      exact ⟨rfl, (by repeat (first | exact Gr.refl _ | with_reducible apply Gr.alloc | with_reducible apply Gr.grow | with_reducible apply Gr.drewN | with_reducible apply Gr.drew))⟩
    · have hs : checkT nd len l = checkF nd len none l := by unfold checkT; rw [if_neg h1, if_neg h2]
      rw [hs]
      have g3 : ¬ (512 : Int) < (l.length : Int) := by omega
      clear hs h1
      generalize hres : checkF nd len none l = res
      have HRes := Hd.mk hres
      clear hres
      go_enter Try.func13, Try.ntmps13
      go_upto_region 6 with (go_at_call 43; (with_reducible refine (HN _).mono ?_); rintro e w' ⟨rfl, rfl⟩)
      generalize hW : World.alloc _ _ = W
      have HWe := Hd.mk hW
      clear hW
      have b0 : W.cell? ⟨w.heap.size, 0, none⟩ = some (.int .i64 nd) := by rw [← HWe.out]; go_simp
      have b1 : W.cell? ⟨w.heap.size, 1, none⟩ = some (.int .i64 len) := by rw [← HWe.out]; go_simp
      have b2 : W.cell? ⟨w.heap.size, 2, none⟩ = some (.slice A l.length c) := by rw [← HWe.out]; go_simp
      have G0 : Gr w W := by rw [← HWe.out]; exact (by repeat (first | exact Gr.refl _ | with_reducible apply Gr.alloc | with_reducible apply Gr.grow | with_reducible apply Gr.drewN | with_reducible apply Gr.drew))
      have z0 := World.block_lt_of_cell? W _ b0
      dsimp only at z0
      have HR2 := Hd.mk (HR.out.gr G0)
      have HG0 := Hd.mk G0
      clear HWe G0 HN HR
      go_loopg [3, 4, 5, 27] l.length (fun gg s3 s4 s5 s27 wr => ∃ k : Nat, k ≤ l.length ∧ l.length - k ≤ gg ∧ s27 = .int .i64 k ∧ Hd (Gr W wr) ∧ Hd (res = checkF nd len (prevOf l k) (l.drop k)))
      case atStart => exact ⟨0, Nat.zero_le _, by omega, rfl, ⟨Gr.refl _⟩, ⟨HRes.out.symm⟩⟩
      case round =>
        obtain ⟨k, hk, hg, rfl, GW, CF⟩ := hrel
        by_cases hlt : k < l.length
        · obtain ⟨b, off, rfl, hb, hcell⟩ := HR2.out.2 (by omega)
          have hbl := GW.out.below
          have o := fun (q : Nat) => hbl.cell (p := ⟨w.heap.size, q, none⟩) z0
          have o2 := fun (q : Nat) => hbl.cell (p := ⟨b, q, none⟩) hb
          have d0 := (o 0).trans b0
          have d1 := (o 1).trans b1
          have d2 := (o 2).trans b2
          have hcell' : ∀ j, j < l.length → C43 wr b (off + j * 6) (nth l j) := fun j hj => by
            unfold C43
            simp only [o2]
            exact hcell j hj
          have zt : w.heap.size < wr.heap.size := World.block_lt_of_cell? wr _ d0
          obtain ⟨k0, k1, k2, k3, k4, k5⟩ := hcell' k hlt
          have zb : b < wr.heap.size := World.block_lt_of_cell? wr _ k0
          have hltz : (k : Int) < (l.length : Int) := by omega
          have hkz : (0 : Int) ≤ (k : Int) := by omega
          have hbad := checkF_bad (n := nd) (len := len) hlt
          have hfirst := checkF_first (n := nd) (len := len) (l := l) (Nat.lt_of_le_of_lt (Nat.zero_le k) hlt)
          have hord := checkF_order (n := nd) (len := len) hlt
          have hnext := checkF_next (n := nd) (len := len) hlt
          have HCel := Hd.mk hcell'
          clear hbl o o2 hcell hcell'
          generalize hx : nth l k = x at *
          obtain ⟨x0, x1, x2, x3, x4, x5⟩ := x
          have HX := Hd.mk hx
          dsimp only at *
          have hfo := cform x0 x1 x2 x4 x5 nd len x3
          generalize hq : formS ⟨x0, x1, x2, x3, x4, x5⟩ nd len = q at *
          have HBad := Hd.mk hbad
          have HFirst := Hd.mk hfirst
          have HOrd := Hd.mk hord
          have HNext := Hd.mk hnext
          have HQ := Hd.mk hq
          clear hbad hfirst hord hnext hq hx
          by_cases hq0 : q = 0
          · subst hq0
            rcases Nat.eq_zero_or_pos k with h0 | h0
            · subst h0
              simp only [Nat.zero_mul, Nat.add_zero] at k0 k1 k2 k3 k4 k5
              go_wp2_with (go_at_call 44; (with_reducible refine (hfo _).mono ?_); rintro e w' ⟨rfl, hg⟩; obtain ⟨n, os, rfl⟩ := hg.out; clear hg)
              go_quiet (fail)
              go_wp2
              go_roundg (l.length - 1)
              case measure => omega
              case rel => exact ⟨1, by omega, by omega, by go_num, ⟨GW.out.trans (by repeat (first | exact Gr.refl _ | with_reducible apply Gr.alloc | with_reducible apply Gr.grow | with_reducible apply Gr.drewN | with_reducible apply Gr.drew))⟩, ⟨by rw [CF.out, HFirst.out (by first | trivial | (rw [HX.out]; exact HQ.out))]⟩⟩
            · obtain ⟨j, rfl⟩ : ∃ j, k = j + 1 := ⟨k - 1, by omega⟩
              go_upto_region 11 with (go_at_call 44; (with_reducible refine (hfo _).mono ?_); rintro e w' ⟨rfl, hg⟩; obtain ⟨n, os, rfl⟩ := hg.out; clear hg)
              generalize hW5 : Sort.grow _ _ = W5
              have HWe := Hd.mk hW5
              clear hW5
              have e0 : W5.cell? ⟨wr.heap.size, 0, none⟩ = some (.int .i64 x0) := by rw [← HWe.out]; go_simp
              have e1 : W5.cell? ⟨wr.heap.size, 1, none⟩ = some (.int .i64 x1) := by rw [← HWe.out]; go_simp
              have e2 : W5.cell? ⟨wr.heap.size, 2, none⟩ = some (.int .i64 x2) := by rw [← HWe.out]; go_simp
              have e3 : W5.cell? ⟨wr.heap.size, 3, none⟩ = some (.bool x3) := by rw [← HWe.out]; go_simp
              have e4 : W5.cell? ⟨wr.heap.size, 4, none⟩ = some (.int .i64 x4) := by rw [← HWe.out]; go_simp
              have e5 : W5.cell? ⟨wr.heap.size, 5, none⟩ = some (.int .i64 x5) := by rw [← HWe.out]; go_simp
              have G5 : Gr wr W5 := by rw [← HWe.out]; exact (by repeat (first | exact Gr.refl _ | with_reducible apply Gr.alloc | with_reducible apply Gr.grow | with_reducible apply Gr.drewN | with_reducible apply Gr.drew))
              have o := fun (q : Nat) => G5.below.cell (p := ⟨w.heap.size, q, none⟩) zt
              have o2 := fun (q : Nat) => G5.below.cell (p := ⟨b, q, none⟩) zb
              have t2 := (o 2).trans d2
              obtain ⟨p0, p1, p2, p3, p4, p5⟩ := HCel.out j (by omega)
              rw [← o2] at p0 p1 p2 p3 p4 p5
              have y0 := World.block_lt_of_cell? W5 _ e0
              have y1 := World.block_lt_of_cell? W5 _ t2
              have y2 := World.block_lt_of_cell? W5 _ p0
              dsimp only at y0 y1 y2
              have G6 := Hd.mk (HG0.out.trans (GW.out.trans G5))
              have G7 := Hd.mk (GW.out.trans G5)
              have hjl : (j : Int) < (l.length : Int) := by omega
              have hj0 : (0 : Int) ≤ (j : Int) := by omega
              have hl' := HR2.out.1
              have z1 : IntKind.i64.wrap (j : Int) = (j : Int) := IntWalk.i64_in _ (by omega)
              have z2 : decide ((0 : Int) < (j : Int) + 1) = true := decide_eq_true (by omega)
              generalize wr.heap.size = d at *
              clear HWe G5 o o2 d0 d1 d2 k0 k1 k2 k3 k4 k5 HCel zt zb HG0 GW b0 b1 b2 HR2
              generalize hy : nth l j = y at *
              obtain ⟨v0, v1, v2, v3, v4, v5⟩ := y
              have HY := Hd.mk hy
              clear hy
              dsimp only at *
              have hcm := ccompare v0 v1 v2 v4 v5 x0 x1 x2 x4 x5 v3 x3
              generalize hqq : cmpT ⟨v0, v1, v2, v3, v4, v5⟩ ⟨x0, x1, x2, x3, x4, x5⟩ = cq at *
              have HCq := Hd.mk hqq
              clear hqq
              go_quiet_grown (first | (go_at_call 45; with_reducible exact quiet_grown rfl (hcm _)))
              go_wp2
              · go_ret
                exact ⟨ret_i (by rw [CF.out, HOrd.out (by omega) (by first | trivial | (rw [HX.out]; exact HQ.out)) (by rw [Nat.add_sub_cancel, HY.out, HCq.out]; assumption)]), G6.out.trans (by repeat (first | exact Gr.refl _ | with_reducible apply Gr.alloc | with_reducible apply Gr.grow | with_reducible apply Gr.drewN | with_reducible apply Gr.drew))⟩
              · go_roundg (l.length - (j + 2))
                case measure => omega
                case rel => exact ⟨j + 2, by omega, by omega, by go_num, ⟨G7.out.trans (by repeat (first | exact Gr.refl _ | with_reducible apply Gr.alloc | with_reducible apply Gr.grow | with_reducible apply Gr.drewN | with_reducible apply Gr.drew))⟩, ⟨by rw [CF.out, HNext.out (by omega) (by first | trivial | (rw [HX.out]; exact HQ.out)) (by rw [Nat.add_sub_cancel, HY.out, HCq.out]; first | assumption | omega)]⟩⟩
          · go_wp2_with (go_at_call 44; (with_reducible refine (hfo _).mono ?_); rintro e w' ⟨rfl, hg⟩; obtain ⟨n, os, rfl⟩ := hg.out; clear hg)
            go_ret
            exact ⟨ret_i (by rw [CF.out, HBad.out hq0]), HG0.out.trans (GW.out.trans (by repeat (first | exact Gr.refl _ | with_reducible apply Gr.alloc | with_reducible apply Gr.grow | with_reducible apply Gr.drewN | with_reducible apply Gr.drew)))⟩
        · obtain rfl : k = l.length := by omega
          have hltz : ¬ ((l.length : Int) < (l.length : Int)) := by omega
          go_wp2
          go_ret
          exact ⟨ret_i (by rw [CF.out, checkF_end]), HG0.out.trans (GW.out.trans (by repeat (first | exact Gr.refl _ | with_reducible apply Gr.alloc | with_reducible apply Gr.grow | with_reducible apply Gr.drewN | with_reducible apply Gr.drew)))⟩
end Go.Proofs.Ytcknakbjiklklaa.F
