import Derived.Test.YtcknakbjiklklaaF12
import Derived.Test.YtcknakbjiklklaaF20
import Derived.Test.YtcknakbjiklklaaS8
/- hopmeshref16.At. -/
namespace Go.Proofs.Ytcknakbjiklklaa.F
open Go.RowKit Go.Sort Go.Proofs.Ytcknakbjiklklaa.B Go.Proofs.Ytcknakbjiklklaa.S
set_option linter.unusedVariables false
set_option linter.unusedSimpArgs false
set_option maxHeartbeats 4000000 in
theorem xat (n len : Int) (A : Option Addr) (c : Nat) (l : List TC) (slot : Int) (w : World) (hr : Rd w A l) (hc : l.length ≤ c) :
    Calls Try.prog 26 #[.agg #[.int .i64 n, .int .i64 len, .slice A l.length c], .int .i64 slot] w fun e w' => e = .returned (.tuple #[vT (atS n len l slot).1, .bool (atS n len l slot).2]) ∧ Bl w w' := by
  have hm := mixed
  have hC : ∀ W, Gr w W → _ := fun W h => xcheck n len A c l W (hr.gr h) hc
  by_cases h : checkT n len l ≠ 0 ∨ slot < 0
  · have hs : atS n len l slot = (zT, false) := by unfold atS; rw [if_pos h]
    rw [hs]
    clear hs hr
    generalize checkT n len l = q at *
    have hq : (q != 0) = true ∨ (q != 0) = false ∧ slot < 0 := by
      rcases h with h | h
      · exact .inl (by simp [h])
      · by_cases e : q = 0
        · exact .inr ⟨by simp [e], h⟩
        · exact .inl (by simp [e])
    clear h
    rcases hq with h | ⟨h, h'⟩
    all_goals
      go_enter Try.func26, Try.ntmps26
      go_wp2_with (first | (go_at_call 14; (with_reducible refine (hC _ (by repeat (first | exact Gr.refl _ | with_reducible apply Gr.alloc | with_reducible apply Gr.grow | with_reducible apply Gr.drewN | with_reducible apply Gr.drew))).mono ?_); rintro e w' ⟨rfl, hg⟩; obtain ⟨n, os, rfl⟩ := hg.out; clear hg))
      refine ⟨rfl, _, by simp [results, Try.results26, go_sem]; (repeat' first | rfl | apply And.intro), rfl, (by repeat (first | exact Bl.refl _ | with_reducible apply Bl.alloc | with_reducible apply Bl.grow | with_reducible apply Bl.sd | with_reducible apply Bl.drewN | with_reducible apply Bl.drew))⟩
  · have hk : checkT n len l = 0 := Decidable.byContradiction fun e => h (.inl e)
    have hsl : 0 ≤ slot := by omega
    obtain ⟨hn, hlen, h512, hok, hso⟩ := checkT_ok hk
    have hs : atS n len l slot = if foundI l (slot % len) = true then (nth l (lowI l (slot % len)), true) else (zT, false) := by unfold atS; rw [if_neg h]
    rw [hs]
    rw [hk] at hC
    have hss := sorted_sl hso
    have hmod : slot.tmod len = slot % len := Int.tmod_eq_emod_of_nonneg hsl
    have HR := Hd.mk hr
    clear hs h hk hn hok hso hr
    have HFst := Hd.mk (fun (k : Nat) hk he hb => first_at (l := l) (t := slot % len) hss (k := k) hk he hb)
    have HNon := Hd.mk (fun hb => none_at (l := l) (t := slot % len) hb)
    clear hss
    generalize hres : (if foundI l (slot % len) = true then (nth l (lowI l (slot % len)), true) else (zT, false)) = res
    have HRes := Hd.mk hres
    clear hres
    have hs0 : ¬ slot < 0 := by omega
    have hl0 : ¬ len = 0 := by omega
    obtain ⟨hl1, hl2⟩ := hlen
    go_enter Try.func26, Try.ntmps26
    go_upto_region 4 with (first | (go_at_call 14; (with_reducible refine (hC _ (by repeat (first | exact Gr.refl _ | with_reducible apply Gr.alloc | with_reducible apply Gr.grow | with_reducible apply Gr.drewN | with_reducible apply Gr.drew))).mono ?_); rintro e w' ⟨rfl, hg⟩; obtain ⟨n, os, rfl⟩ := hg.out; clear hg))
    generalize hW : Sort.grow _ _ = W
    have HWe := Hd.mk hW
    clear hW
    have b1 : W.cell? ⟨w.heap.size, 1, none⟩ = some (.int .i64 len) := by rw [← HWe.out]; go_simp
    have b2 : W.cell? ⟨w.heap.size, 2, none⟩ = some (.slice A l.length c) := by rw [← HWe.out]; go_simp
    have r0 : W.cell? ⟨w.heap.size + 1, 0, none⟩ = some (.int .i64 0) := by rw [← HWe.out]; go_simp
    have r1 : W.cell? ⟨w.heap.size + 1, 1, none⟩ = some (.int .i64 0) := by rw [← HWe.out]; go_simp
    have r2 : W.cell? ⟨w.heap.size + 1, 2, none⟩ = some (.int .i64 0) := by rw [← HWe.out]; go_simp
    have r3 : W.cell? ⟨w.heap.size + 1, 3, none⟩ = some (.bool false) := by rw [← HWe.out]; go_simp
    have r4 : W.cell? ⟨w.heap.size + 1, 4, none⟩ = some (.int .i64 0) := by rw [← HWe.out]; go_simp
    have r5 : W.cell? ⟨w.heap.size + 1, 5, none⟩ = some (.int .i64 0) := by rw [← HWe.out]; go_simp
    have rf : ∀ k, W.frozen? ⟨w.heap.size + 1, k, none⟩ = false := fun k => by rw [← HWe.out]; go_simp
    have G0 : Gr w W := by rw [← HWe.out]; exact (by repeat (first | exact Gr.refl _ | with_reducible apply Gr.alloc | with_reducible apply Gr.grow | with_reducible apply Gr.drewN | with_reducible apply Gr.drew))
    have z0 := World.block_lt_of_cell? W _ b1
    have z1 := World.block_lt_of_cell? W _ r0
    dsimp only at z0 z1
    have HB := Hd.mk G0.bl
    have HR2 := Hd.mk (HR.out.gr G0)
    clear HWe G0 hC HR
    go_loopg [6] l.length (fun gg s6 wr => ∃ k : Nat, k ≤ l.length ∧ l.length - k ≤ gg ∧ s6 = .int .i64 k ∧ Hd (Gr W wr) ∧ Hd (∀ j, j < k → (nth l j).sl ≠ slot % len))
    case atStart => exact ⟨0, Nat.zero_le _, by omega, rfl, ⟨Gr.refl _⟩, ⟨fun j hj => absurd hj (Nat.not_lt_zero _)⟩⟩
    case round =>
      obtain ⟨k, hk, hg, rfl, GW, CF⟩ := hrel
      have o := fun (q : Nat) => GW.out.below.cell (p := ⟨w.heap.size, q, none⟩) z0
      have o2 := fun (q : Nat) => GW.out.below.cell (p := ⟨w.heap.size + 1, q, none⟩) z1
      have d1 := (o 1).trans b1
      have d2 := (o 2).trans b2
      have s0 := (o2 0).trans r0
      have s1 := (o2 1).trans r1
      have s2 := (o2 2).trans r2
      have s3 := (o2 3).trans r3
      have s4 := (o2 4).trans r4
      have s5 := (o2 5).trans r5
      have sf : ∀ k, wr.frozen? ⟨w.heap.size + 1, k, none⟩ = false := fun k => (Below.frozen GW.out.below (p := ⟨w.heap.size + 1, k, none⟩) z1).trans (rf k)
      have y0 : w.heap.size < wr.heap.size := World.block_lt_of_cell? wr _ d1
      have y1 : w.heap.size + 1 < wr.heap.size := World.block_lt_of_cell? wr _ s0
      have HB2 := Hd.mk (HB.out.trans GW.out.bl)
      have hl' := HR2.out.1
      clear o o2 b1 b2 r0 r1 r2 r3 r4 r5 rf
      by_cases hlt : k < l.length
      · obtain ⟨b, off, rfl, hb, hcell⟩ := (HR2.out.gr GW.out).2 (by omega)
        obtain ⟨k0, k1, k2, k3, k4, k5⟩ := hcell k hlt
        have hltz : (k : Int) < (l.length : Int) := by omega
        have hiz : (0 : Int) ≤ (k : Int) := by omega
        clear hcell
        by_cases hx : (nth l k).sl = slot % len
        · obtain ⟨e1, e2⟩ := HFst.out k hlt hx CF.out
          have hres := HRes.out
          rw [if_pos e2, e1] at hres
          clear HFst HNon HRes e1 e2 CF
          generalize nth l k = x at *
          obtain ⟨x0, x1, x2, x3, x4, x5⟩ := x
          dsimp only at *
          subst hres
          have hxb : (x0 == slot % len) = true := by simp [hx]
          clear hx
          go_upto_region 6 with fail
          go_quiet (fail)
          go_wp2
          refine ⟨rfl, _, by simp [results, Try.results26, go_sem, s0, s1, s2, s3, s4, s5]; (repeat' first | rfl | apply And.intro), rfl, (by repeat (first | with_reducible exact HB2.out | with_reducible apply Bl.drewN | with_reducible apply Bl.drew | with_reducible refine Bl.setCell ?_ (by omega)))⟩
        · generalize hnx : nth l k = x at *
          obtain ⟨x0, x1, x2, x3, x4, x5⟩ := x
          have HNx := Hd.mk hnx
          clear hnx
          dsimp only at *
          have hxb : (x0 == slot % len) = false := by simp [hx]
          have HX := Hd.mk hx
          clear hx
          go_upto_region 6 with fail
          go_quiet (fail)
          go_wp2
          go_roundg (l.length - (k + 1))
          case measure => omega
          case rel =>
            refine ⟨k + 1, by omega, by omega, by go_num, ⟨GW.out.trans (by repeat (first | exact Gr.refl _ | with_reducible apply Gr.alloc | with_reducible apply Gr.grow | with_reducible apply Gr.drewN | with_reducible apply Gr.drew))⟩, ⟨fun j hj => ?_⟩⟩
            rcases Nat.lt_or_ge j k with e | e
            · exact CF.out j e
            · obtain rfl : j = k := by omega
              rw [HNx.out]
              exact HX.out
      · obtain rfl : k = l.length := by omega
        have hltz : ¬ ((l.length : Int) < (l.length : Int)) := by omega
        have hres := HRes.out
        rw [if_neg (by rw [HNon.out CF.out]; decide)] at hres
        subst hres
        go_wp2
        refine ⟨rfl, _, by simp [results, Try.results26, go_sem, s0, s1, s2, s3, s4, s5]; (repeat' first | rfl | apply And.intro), rfl, (by repeat (first | with_reducible exact HB2.out | with_reducible apply Bl.drewN | with_reducible apply Bl.drew | with_reducible refine Bl.setCell ?_ (by omega)))⟩
end Go.Proofs.Ytcknakbjiklklaa.F
