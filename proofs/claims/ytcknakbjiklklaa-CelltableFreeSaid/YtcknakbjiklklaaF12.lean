import Derived.Test.YtcknakbjiklklaaF11
import Derived.Test.YtcknakbjiklklaaF8
/- celltable.At. -/
namespace Go.Proofs.Ytcknakbjiklklaa.F
open Go.RowKit Go.Sort Go.Proofs.Ytcknakbjiklklaa.B Go.Proofs.Ytcknakbjiklklaa.S
set_option linter.unusedVariables false
set_option linter.unusedSimpArgs false
set_option maxHeartbeats 4000000 in
theorem tat (n len : Int) (A : Option Addr) (c : Nat) (l : List TC) (slot : Int) (w : World) (hr : Rd w A l) (hc : l.length ≤ c) :
    Calls Try.prog 25 #[.agg #[.int .i64 n, .int .i64 len, .slice A l.length c], .int .i64 slot] w fun e w' => e = .returned (.tuple #[vT (atS n len l slot).1, .bool (atS n len l slot).2]) ∧ Bl w w' := by
  have hm := mixed
  have hC : ∀ W, Gr w W → _ := fun W h => tcheck n len A c l W (hr.gr h) hc
  by_cases h : checkT n len l ≠ 0 ∨ slot < 0
  · have hs : atS n len l slot = (zT, false) := by unfold atS; rw [if_pos h]
    rw [hs]
    clear hs hr
    generalize checkT n len l = q at *
    have hq : (q != 0) = true ∨ (q != 0) = false ∧ slot < 0 := by
      rcases h with h | h
      · exact .inl (by simp [h])
      · by_cases e : q = 0
        · exact .inr ⟨by simp [e], h⟩
        · exact .inl (by simp [e])
    clear h
    rcases hq with h | ⟨h, h'⟩
    all_goals
      go_enter Try.func25, Try.ntmps25
      go_wp2_with (first | (go_at_call 13; (with_reducible refine (hC _ (by repeat (first | exact Gr.refl _ | with_reducible apply Gr.alloc | with_reducible apply Gr.grow | with_reducible apply Gr.drewN | with_reducible apply Gr.drew))).mono ?_); rintro e w' ⟨rfl, hg⟩; obtain ⟨n, os, rfl⟩ := hg.out; clear hg))
      refine ⟨rfl, _, by simp [results, Try.results25, go_sem]; (repeat' first | rfl | apply And.intro), rfl, (by repeat (first | exact Bl.refl _ | with_reducible apply Bl.alloc | with_reducible apply Bl.grow | with_reducible apply Bl.sd | with_reducible apply Bl.drewN | with_reducible apply Bl.drew))⟩
  · have hk : checkT n len l = 0 := Decidable.byContradiction fun e => h (.inl e)
    have hsl : 0 ≤ slot := by omega
    obtain ⟨hn, hlen, h512, hok, hso⟩ := checkT_ok hk
    have hs : atS n len l slot = if foundI l (slot % len) = true then (nth l (lowI l (slot % len)), true) else (zT, false) := by unfold atS; rw [if_neg h]
    rw [hs]
    rw [hk] at hC
    have hB : ∀ W, Gr w W → _ := fun W h => tbsi A c l (slot % len) W (hr.gr h) hc (sorted_sl hso) h512
    have hfd : foundI l (slot % len) = decide (lowI l (slot % len) < l.length ∧ (nth l (lowI l (slot % len))).sl = slot % len) := rfl
    have hmod : slot.tmod len = slot % len := Int.tmod_eq_emod_of_nonneg hsl
    have hlow := lowI_le l (slot % len)
    have HR := Hd.mk hr
    clear hs h hk hn hok hso hr
    generalize lowI l (slot % len) = i at *
    generalize foundI l (slot % len) = fo at *
    generalize hres : (if fo = true then (nth l i, true) else (zT, false)) = res
    have HRes := Hd.mk hres
    have HFd := Hd.mk hfd
    clear hres hfd
    have hs0 : ¬ slot < 0 := by omega
    have hl0 : ¬ len = 0 := by omega
    obtain ⟨hl1, hl2⟩ := hlen
    go_enter Try.func25, Try.ntmps25
    go_upto_region 3 with (first | (go_at_call 13; (with_reducible refine (hC _ (by repeat (first | exact Gr.refl _ | with_reducible apply Gr.alloc | with_reducible apply Gr.grow | with_reducible apply Gr.drewN | with_reducible apply Gr.drew))).mono ?_); rintro e w' ⟨rfl, hg⟩; obtain ⟨n, os, rfl⟩ := hg.out; clear hg))
    generalize hW : Sort.grow _ _ = W
    have HWe := Hd.mk hW
    clear hW
    have b1 : W.cell? ⟨w.heap.size, 1, none⟩ = some (.int .i64 len) := by rw [← HWe.out]; go_simp
    have b2 : W.cell? ⟨w.heap.size, 2, none⟩ = some (.slice A l.length c) := by rw [← HWe.out]; go_simp
    have r0 : W.cell? ⟨w.heap.size + 1, 0, none⟩ = some (.int .i64 0) := by rw [← HWe.out]; go_simp
    have r1 : W.cell? ⟨w.heap.size + 1, 1, none⟩ = some (.int .i64 0) := by rw [← HWe.out]; go_simp
    have r2 : W.cell? ⟨w.heap.size + 1, 2, none⟩ = some (.int .i64 0) := by rw [← HWe.out]; go_simp
    have r3 : W.cell? ⟨w.heap.size + 1, 3, none⟩ = some (.bool false) := by rw [← HWe.out]; go_simp
    have r4 : W.cell? ⟨w.heap.size + 1, 4, none⟩ = some (.int .i64 0) := by rw [← HWe.out]; go_simp
    have r5 : W.cell? ⟨w.heap.size + 1, 5, none⟩ = some (.int .i64 0) := by rw [← HWe.out]; go_simp
    have rf : ∀ k, W.frozen? ⟨w.heap.size + 1, k, none⟩ = false := fun k => by rw [← HWe.out]; go_simp
    have G0 : Gr w W := by rw [← HWe.out]; exact (by repeat (first | exact Gr.refl _ | with_reducible apply Gr.alloc | with_reducible apply Gr.grow | with_reducible apply Gr.drewN | with_reducible apply Gr.drew))
    have z0 := World.block_lt_of_cell? W _ b1
    have z1 := World.block_lt_of_cell? W _ r0
    dsimp only at z0 z1
    have hBW := fun X (h : Gr W X) => hB X (G0.trans h)
    have HG := Hd.mk G0
    clear HWe G0 hC hB
    go_quiet_grown (first | (go_at_call 58; with_reducible exact quiet_grown rfl (hBW _ (by repeat (first | exact Gr.refl _ | with_reducible apply Gr.alloc | with_reducible apply Gr.grow | with_reducible apply Gr.drewN | with_reducible apply Gr.drew)))))
    generalize hW2 : Sort.grow _ _ = W2
    have G2 : Gr W W2 := by rw [← hW2]; exact (by repeat (first | exact Gr.refl _ | with_reducible apply Gr.alloc | with_reducible apply Gr.grow | with_reducible apply Gr.drewN | with_reducible apply Gr.drew))
    have o := fun (q : Nat) => G2.below.cell (p := ⟨w.heap.size, q, none⟩) z0
    have o2 := fun (q : Nat) => G2.below.cell (p := ⟨w.heap.size + 1, q, none⟩) z1
    have d1 := (o 1).trans b1
    have d2 := (o 2).trans b2
    have s0 := (o2 0).trans r0
    have s1 := (o2 1).trans r1
    have s2 := (o2 2).trans r2
    have s3 := (o2 3).trans r3
    have s4 := (o2 4).trans r4
    have s5 := (o2 5).trans r5
    have sf : ∀ k, W2.frozen? ⟨w.heap.size + 1, k, none⟩ = false := fun k => (Below.frozen G2.below (p := ⟨w.heap.size + 1, k, none⟩) z1).trans (rf k)
    have y0 := World.block_lt_of_cell? W2 _ d1
    have y1 := World.block_lt_of_cell? W2 _ s0
    dsimp only at y0 y1
    have HG2 := Hd.mk (HG.out.trans G2)
    have HB2 := Hd.mk (HG.out.trans G2).bl
    have HR2 := Hd.mk (HR.out.gr (HG.out.trans G2))
    clear hW2 G2 o o2 b1 b2 r0 r1 r2 r3 r4 r5 rf z0 z1 hBW HG HR
    by_cases hil : i < l.length
    · obtain ⟨b, off, rfl, hb, hcell⟩ := HR2.out.2 (by omega)
      obtain ⟨k0, k1, k2, k3, k4, k5⟩ := hcell i hil
      have hd8 : decide ((i : Int) < (l.length : Int)) = true := decide_eq_true (by omega)
      have hltz : (i : Int) < (l.length : Int) := by omega
      have hiz : (0 : Int) ≤ (i : Int) := by omega
      have hfd := HFd.out
      have hres := HRes.out
      clear hcell HFd HRes
      generalize nth l i = x at *
      obtain ⟨x0, x1, x2, x3, x4, x5⟩ := x
      dsimp only at *
      by_cases hx : x0 = slot % len
      · have e : fo = true := by rw [hfd]; exact decide_eq_true ⟨hil, hx⟩
        subst e
        rw [if_pos rfl] at hres
        subst hres
        have hxb : (x0 == slot % len) = true := by simp [hx]
        clear hfd hx
        go_upto_region 4 with fail
        go_quiet (fail)
        go_wp2
        refine ⟨rfl, _, by simp [results, Try.results25, go_sem, s0, s1, s2, s3, s4, s5]; (repeat' first | rfl | apply And.intro), rfl, (by repeat (first | with_reducible exact HB2.out | with_reducible apply Bl.drewN | with_reducible apply Bl.drew | with_reducible refine Bl.setCell ?_ (by omega)))⟩
      · have e : fo = false := by rw [hfd]; exact decide_eq_false (fun h => hx h.2)
        subst e
        rw [if_neg (by decide)] at hres
        subst hres
        have hxb : (x0 == slot % len) = false := by simp [hx]
        clear hfd hx
        go_upto_region 4 with fail
        go_quiet (fail)
        go_wp2
        refine ⟨rfl, _, by simp [results, Try.results25, go_sem, s0, s1, s2, s3, s4, s5]; (repeat' first | rfl | apply And.intro), rfl, (by repeat (first | with_reducible exact HB2.out | with_reducible apply Bl.drewN | with_reducible apply Bl.drew | with_reducible refine Bl.setCell ?_ (by omega)))⟩
    · have hd8 : decide ((i : Int) < (l.length : Int)) = false := decide_eq_false (by omega)
      have e : fo = false := by rw [HFd.out]; exact decide_eq_false (fun h => hil h.1)
      subst e
      have hres := HRes.out
      rw [if_neg (by decide)] at hres
      subst hres
      clear HFd HRes
      go_upto_region 4 with fail
      go_quiet (fail)
      go_wp2
      refine ⟨rfl, _, by simp [results, Try.results25, go_sem, s0, s1, s2, s3, s4, s5]; (repeat' first | rfl | apply And.intro), rfl, (by repeat (first | with_reducible exact HB2.out | with_reducible apply Bl.drewN | with_reducible apply Bl.drew | with_reducible refine Bl.setCell ?_ (by omega)))⟩
end Go.Proofs.Ytcknakbjiklklaa.F
