import Derived.Test.YtcknakbjiklklaaF8
/- celltable.Of. -/
namespace Go.Proofs.Ytcknakbjiklklaa.F
open Go.RowKit Go.Sort Go.Proofs.Ytcknakbjiklklaa.B Go.Proofs.Ytcknakbjiklklaa.S
set_option linter.unusedVariables false
set_option linter.unusedSimpArgs false
theorem ofF_skip {self : Int} {acc : List TC} {l : List SC} {k : Nat} (h : k < l.length) (hn : ¬ ((nth l k).fr = self ∨ (nth l k).tt = self)) : ofF self acc (l.drop k) = ofF self acc (l.drop (k + 1)) := by
  rw [drop_at l k h]; simp only [ofF]; rw [if_neg hn]
theorem ofF_twice {self : Int} {acc : List TC} {l : List SC} {k : Nat} (h : k < l.length) (hn : (nth l k).fr = self ∨ (nth l k).tt = self) (hf : foundT acc (ofX self (nth l k)) = true) : (ofF self acc (l.drop k)).2 = false := by
  rw [drop_at l k h]; simp only [ofF]; rw [if_pos hn, if_pos hf]
theorem ofF_next {self : Int} {acc : List TC} {l : List SC} {k : Nat} (h : k < l.length) (hn : (nth l k).fr = self ∨ (nth l k).tt = self) (hf : foundT acc (ofX self (nth l k)) = false) : ofF self acc (l.drop k) = ofF self (insT acc (ofX self (nth l k))) (l.drop (k + 1)) := by
  rw [drop_at l k h]; simp only [ofF]; rw [if_pos hn, if_neg (by rw [hf]; decide)]
theorem ofF_end (self : Int) (acc : List TC) (l : List SC) : ofF self acc (l.drop l.length) = (acc, true) := by simp [ofF]
set_option maxHeartbeats 4000000 in
theorem tof_early (len offs self : Int) (A : Option Addr) (c : Nat) (l : List SC) (w : World) (hr : RdS w A l) (hc : l.length ≤ c) (hh : rightS len offs l = false ∨ win self 0 31 = false) :
    Calls Try.prog 16 #[.agg #[.int .i64 len, .int .i64 offs, .slice A l.length c], .int .i64 self] w fun e w' => ∃ v, e = .returned (.tuple #[.agg #[.int .i64 (ofS len offs l self).1.n, .int .i64 (ofS len offs l self).1.len, v], .int .i64 (ofS len offs l self).2]) ∧ Ow w' w.heap.size v (ofS len offs l self).1.l ∧ Bl w w' := by
  have hC : ∀ W, Gr w W → _ := fun W h => sright len offs A c l W (hr.gr h) hc
  have hN := cnode self
  cases h1 : rightS len offs l with
  | false =>
    have hs : ofS len offs l self = (⟨0, 0, []⟩, 1) := by unfold ofS; rw [if_pos h1]
    rw [hs]
    rw [h1] at hC
    clear hr hs hh h1
    go_enter Try.func16, Try.ntmps16
    go_wp2_with (first | (go_at_call 48; (with_reducible refine (hC _ (by repeat (first | exact Gr.refl _ | with_reducible apply Gr.alloc | with_reducible apply Gr.grow | with_reducible apply Gr.drewN | with_reducible apply Gr.drew))).mono ?_); rintro e w' ⟨rfl, hg⟩; obtain ⟨n, os, rfl⟩ := hg.out; clear hg))
    refine ⟨rfl, _, by simp [results, Try.results16, go_sem]; (repeat' first | rfl | apply And.intro), ⟨_, rfl, Ow.nil _ _, (by repeat (first | exact Bl.refl _ | with_reducible apply Bl.alloc | with_reducible apply Bl.grow | with_reducible apply Bl.sd | with_reducible apply Bl.drewN | with_reducible apply Bl.drew))⟩⟩
  | true =>
    have h2 : win self 0 31 = false := hh.resolve_left (by rw [h1]; decide)
    have hs : ofS len offs l self = (⟨0, 0, []⟩, 2) := by unfold ofS; rw [if_neg (by rw [h1]; decide), if_pos h2]
    rw [hs]
    rw [h1] at hC
    rw [h2] at hN
    clear hr hs hh h1 h2
    go_enter Try.func16, Try.ntmps16
    go_wp2_with (first | (go_at_call 48; (with_reducible refine (hC _ (by repeat (first | exact Gr.refl _ | with_reducible apply Gr.alloc | with_reducible apply Gr.grow | with_reducible apply Gr.drewN | with_reducible apply Gr.drew))).mono ?_); rintro e w' ⟨rfl, hg⟩; obtain ⟨n, os, rfl⟩ := hg.out; clear hg) | (go_at_call 43; (with_reducible refine (hN _).mono ?_); rintro e w' ⟨rfl, rfl⟩))
    refine ⟨rfl, _, by simp [results, Try.results16, go_sem]; (repeat' first | rfl | apply And.intro), ⟨_, rfl, Ow.nil _ _, (by repeat (first | exact Bl.refl _ | with_reducible apply Bl.alloc | with_reducible apply Bl.grow | with_reducible apply Bl.sd | with_reducible apply Bl.drewN | with_reducible apply Bl.drew))⟩⟩
set_option maxHeartbeats 4000000 in
set_option maxRecDepth 100000 in
theorem tof_main (len offs self : Int) (A : Option Addr) (c : Nat) (l : List SC) (w : World) (hr : RdS w A l) (hc : l.length ≤ c) (h1 : rightS len offs l = true) (h2 : win self 0 31 = true) :
    Calls Try.prog 16 #[.agg #[.int .i64 len, .int .i64 offs, .slice A l.length c], .int .i64 self] w fun e w' => ∃ v, e = .returned (.tuple #[.agg #[.int .i64 (ofS len offs l self).1.n, .int .i64 (ofS len offs l self).1.len, v], .int .i64 (ofS len offs l self).2]) ∧ Ow w' w.heap.size v (ofS len offs l self).1.l ∧ Bl w w' := by
  have hC : ∀ W, Gr w W → _ := fun W h => sright len offs A c l W (hr.gr h) hc
  have hN := cnode self
  have hl512 : l.length ≤ 512 := by
    unfold rightS at h1
    rw [Bool.and_eq_true] at h1
    have := of_decide_eq_true h1.1
    omega
  have hs : ofS len offs l self = if (ofF self [] l).2 = false then (⟨0, 0, []⟩, 16) else (⟨self, len, (ofF self [] l).1⟩, 0) := by
    unfold ofS; rw [if_neg (by rw [h1]; decide), if_neg (by rw [h2]; decide)]
  rw [hs]
  rw [h1] at hC
  rw [h2] at hN
  have HR := Hd.mk hr
  clear hr hs h1 h2
  generalize hfin : ofF self [] l = fin
  have HFin := Hd.mk hfin
  clear hfin
  generalize hres : (if fin.2 = false then ((⟨0, 0, []⟩, 16) : Tb × Int) else (⟨self, len, fin.1⟩, 0)) = res
  have HRes := Hd.mk hres
  clear hres
  go_enter Try.func16, Try.ntmps16
  go_upto_region 7 with (first | (go_at_call 48; (with_reducible refine (hC _ (by repeat (first | exact Gr.refl _ | with_reducible apply Gr.alloc | with_reducible apply Gr.grow | with_reducible apply Gr.drewN | with_reducible apply Gr.drew))).mono ?_); rintro e w' ⟨rfl, hg⟩; obtain ⟨n, os, rfl⟩ := hg.out; clear hg) | (go_at_call 43; (with_reducible refine (hN _).mono ?_); rintro e w' ⟨rfl, rfl⟩))
  generalize hW : World.alloc _ _ = W
  have HWe := Hd.mk hW
  clear hW
  have q0 : W.cell? ⟨w.heap.size + (2 + os.size), 0, none⟩ = some (.int .i64 self) := by rw [← HWe.out]; go_simp
  have q1 : W.cell? ⟨w.heap.size + (2 + os.size), 1, none⟩ = some (.int .i64 len) := by rw [← HWe.out]; go_simp
  have q2 : W.cell? ⟨w.heap.size + (2 + os.size), 2, none⟩ = some (.slice none 0 0) := by rw [← HWe.out]; go_simp
  have qf : W.frozen? ⟨w.heap.size + (2 + os.size), 2, none⟩ = false := by rw [← HWe.out]; go_simp
  have r0 : W.cell? ⟨w.heap.size + 1, 0, none⟩ = some (.int .i64 0) := by rw [← HWe.out]; go_simp
  have r1 : W.cell? ⟨w.heap.size + 1, 1, none⟩ = some (.int .i64 0) := by rw [← HWe.out]; go_simp
  have r2 : W.cell? ⟨w.heap.size + 1, 2, none⟩ = some (.slice none 0 0) := by rw [← HWe.out]; go_simp
  have rf : ∀ k, W.frozen? ⟨w.heap.size + 1, k, none⟩ = false := fun k => by rw [← HWe.out]; go_simp
  have hB5 : Bl w W := by rw [← HWe.out]; exact (by repeat (first | exact Bl.refl _ | with_reducible apply Bl.alloc | with_reducible apply Bl.grow | with_reducible apply Bl.sd | with_reducible apply Bl.drewN | with_reducible apply Bl.drew))
  have zd := World.block_lt_of_cell? W _ q0
  have zr := World.block_lt_of_cell? W _ r0
  dsimp only at zd zr
  have hwd : w.heap.size ≤ w.heap.size + (2 + os.size) := by omega
  have hwr : w.heap.size ≤ w.heap.size + 1 := by omega
  have hne : w.heap.size + 1 ≠ w.heap.size + (2 + os.size) := by omega
  have HB5 := Hd.mk hB5
  clear HWe hB5 hC hN
  generalize w.heap.size + (2 + os.size) = d at *
  generalize hb4 : w.heap.size + 1 = b4 at *
  clear hb4
  go_loopg [8, 9, 10, 11, 27] l.length (fun gg s8 s9 s10 s11 s27 wr => ∃ (k : Nat) (acc : List TC) (A1 : Option Addr) (c1 : Nat), k ≤ l.length ∧ l.length - k ≤ gg ∧ s27 = .int .i64 k ∧
    Hd (wr.cell? ⟨d, 0, none⟩ = some (.int .i64 self) ∧ wr.cell? ⟨d, 1, none⟩ = some (.int .i64 len) ∧ wr.cell? ⟨d, 2, none⟩ = some (.slice A1 acc.length c1) ∧ wr.frozen? ⟨d, 2, none⟩ = false ∧
      wr.cell? ⟨b4, 0, none⟩ = some (.int .i64 0) ∧ wr.cell? ⟨b4, 1, none⟩ = some (.int .i64 0) ∧ wr.cell? ⟨b4, 2, none⟩ = some (.slice none 0 0) ∧ ∀ k, wr.frozen? ⟨b4, k, none⟩ = false) ∧
    Hd (Ow wr W.heap.size (.slice A1 acc.length c1) acc) ∧ Hd (sortedT acc ∧ acc.length ≤ k) ∧ Hd (fin = ofF self acc (l.drop k)) ∧ Hd (Bl w wr ∧ W.heap.size ≤ wr.heap.size))
  case atStart => exact ⟨0, [], none, 0, Nat.zero_le _, by omega, rfl, ⟨q0, q1, q2, qf, r0, r1, r2, rf⟩, ⟨Ow.nil _ _⟩, ⟨fun i j _ h => by simp at h, Nat.le_refl _⟩, ⟨HFin.out.symm⟩, ⟨HB5.out, Nat.le_refl _⟩⟩
  case round =>
    obtain ⟨k, acc, A1, c1, hk, hg, rfl, HQ, HO, HS, HF, HB⟩ := hrel
    clear q0 q1 q2 qf r0 r1 r2 rf
    obtain ⟨q0, q1, q2, qf, r0, r1, r2, rf⟩ := HQ.out
    have hWr := HB.out.2
    have zdr : d < wr.heap.size := World.block_lt_of_cell? wr _ q0
    have zrr : b4 < wr.heap.size := World.block_lt_of_cell? wr _ r0
    clear HQ
    by_cases hlt : k < l.length
    · obtain ⟨b, off, rfl, hb, hcell⟩ := (HR.out.bl HB.out.1).2 (by omega)
      obtain ⟨k0, k1, k2, k3, k4⟩ := hcell k hlt
      have hltz : (k : Int) < (l.length : Int) := by omega
      have hkz : (0 : Int) ≤ (k : Int) := by omega
      have hskip := ofF_skip (self := self) (acc := acc) hlt
      have htw := ofF_twice (self := self) (acc := acc) hlt
      have hnx := ofF_next (self := self) (acc := acc) hlt
      have hofx : ofX self (nth l k) = ⟨(nth l k).sl, (nth l k).off, 1, (nth l k).fr == self, if (nth l k).fr = self then (nth l k).tt else (nth l k).fr, (nth l k).fl⟩ := rfl
      clear hcell
      generalize nth l k = x at *
      obtain ⟨x0, x1, x2, x3, x4⟩ := x
      dsimp only at *
      by_cases h2 : x2 = self
      · subst h2
        rw [beq_self_eq_true, if_pos rfl] at hofx
        clear hskip
        go_upto_region 14 with fail
        generalize hX : World.alloc _ _ = X
        have HXe := Hd.mk hX
        clear hX
        have e0 : X.cell? ⟨wr.heap.size + 1, 0, none⟩ = some (.int .i64 x0) := by rw [← HXe.out]; go_simp
        have e1 : X.cell? ⟨wr.heap.size + 1, 1, none⟩ = some (.int .i64 x1) := by rw [← HXe.out]; go_simp
        have e2 : X.cell? ⟨wr.heap.size + 1, 2, none⟩ = some (.int .i64 1) := by rw [← HXe.out]; go_simp
        have e3 : X.cell? ⟨wr.heap.size + 1, 3, none⟩ = some (.bool true) := by rw [← HXe.out]; go_simp
        have e4 : X.cell? ⟨wr.heap.size + 1, 4, none⟩ = some (.int .i64 x3) := by rw [← HXe.out]; go_simp
        have e5 : X.cell? ⟨wr.heap.size + 1, 5, none⟩ = some (.int .i64 x4) := by rw [← HXe.out]; go_simp
        have BX : Bl wr X := by rw [← HXe.out]; exact (by repeat (first | with_reducible exact Bl.refl _ | with_reducible apply Bl.alloc | with_reducible apply Bl.grow | with_reducible apply Bl.sd | with_reducible apply Bl.drewN | with_reducible apply Bl.drew))
        have ze := World.block_lt_of_cell? X _ e0
        dsimp only at ze
        have f2 := (Below.cell BX (p := ⟨d, 2, none⟩) zdr).trans q2
        have f0 := (Below.cell BX (p := ⟨d, 0, none⟩) zdr).trans q0
        have f1 := (Below.cell BX (p := ⟨d, 1, none⟩) zdr).trans q1
        have ff := (Below.frozen BX (p := ⟨d, 2, none⟩) zdr).trans qf
        have u0 := (Below.cell BX (p := ⟨b4, 0, none⟩) zrr).trans r0
        have u1 := (Below.cell BX (p := ⟨b4, 1, none⟩) zrr).trans r1
        have u2 := (Below.cell BX (p := ⟨b4, 2, none⟩) zrr).trans r2
        have uf : ∀ k, X.frozen? ⟨b4, k, none⟩ = false := fun k => (Below.frozen BX (p := ⟨b4, k, none⟩) zrr).trans (rf k)
        have zrX : b4 < X.heap.size := World.block_lt_of_cell? X _ u0
        have zdX : d < X.heap.size := World.block_lt_of_cell? X _ f2
        have hoX := HO.out.bl BX
        obtain ⟨_, _, he1, hc1, rdX⟩ := hoX.rd
        simp only [Value.slice.injEq, true_and] at he1
        obtain ⟨rfl, rfl⟩ := he1
        have hse := tbsf A1 c1 acc ⟨x0, x1, 1, true, x3, x4⟩ X rdX hc1 HS.out.1 (by have := HS.out.2; omega)
        have hle := low_le acc ⟨x0, x1, 1, true, x3, x4⟩
        have hinl := insT_len acc ⟨x0, x1, 1, true, x3, x4⟩
        have hins : acc.take (lowT acc ⟨x0, x1, 1, true, x3, x4⟩) ++ ⟨x0, x1, 1, true, x3, x4⟩ :: acc.drop (lowT acc ⟨x0, x1, 1, true, x3, x4⟩) = insT acc ⟨x0, x1, 1, true, x3, x4⟩ := rfl
        have hsor := @insT_sorted acc ⟨x0, x1, 1, true, x3, x4⟩ HS.out.1
        have HTw := Hd.mk (htw (by simp [hofx]))
        have HNx := Hd.mk (hnx (by simp [hofx]))
        simp only [hofx] at *
        simp only [vT] at hse
        generalize insT acc ⟨x0, x1, 1, true, x3, x4⟩ = acc2 at *
        generalize lowT acc ⟨x0, x1, 1, true, x3, x4⟩ = ix at *
        generalize foundT acc ⟨x0, x1, 1, true, x3, x4⟩ = fo at *
        have HIns := Hd.mk hins
        have HSor := Hd.mk hsor
        have HBX := Hd.mk (HB.out.1.trans BX)
        have hsX : W.heap.size ≤ X.heap.size := Nat.le_trans hWr BX.size
        have HOX := Hd.mk hoX
        clear HXe hins hsor htw hnx rdX q0 q1 q2 qf r0 r1 r2 rf BX hoX k0 k1 k2 k3 k4 zdr zrr
        cases fo with
        | true =>
          have e := HRes.out
          rw [HF.out, HTw.out (by first | trivial | rfl), if_pos rfl] at e
          subst e
          clear HRes
          go_upto_region 16 with (first | (go_at_call 49; (with_reducible refine hse.mono ?_); rintro e w' ⟨rfl, hg⟩; obtain ⟨n, os, rfl⟩ := hg.out; clear hg))
          generalize hX2 : Sort.grow _ _ = X2
          have B2 : Bl X X2 := by rw [← hX2]; exact (by repeat (first | with_reducible exact Bl.refl _ | with_reducible apply Bl.alloc | with_reducible apply Bl.grow | with_reducible apply Bl.sd | with_reducible apply Bl.drewN | with_reducible apply Bl.drew))
          have v0 := (Below.cell B2 (p := ⟨d, 0, none⟩) zdX).trans f0
          have v1 := (Below.cell B2 (p := ⟨d, 1, none⟩) zdX).trans f1
          have v2 := (Below.cell B2 (p := ⟨d, 2, none⟩) zdX).trans f2
          have vf := (Below.frozen B2 (p := ⟨d, 2, none⟩) zdX).trans ff
          have m0 := (Below.cell B2 (p := ⟨b4, 0, none⟩) zrX).trans u0
          have m1 := (Below.cell B2 (p := ⟨b4, 1, none⟩) zrX).trans u1
          have m2 := (Below.cell B2 (p := ⟨b4, 2, none⟩) zrX).trans u2
          have mf : ∀ k, X2.frozen? ⟨b4, k, none⟩ = false := fun k => (Below.frozen B2 (p := ⟨b4, k, none⟩) zrX).trans (uf k)
          have zr2 : b4 < X2.heap.size := World.block_lt_of_cell? X2 _ m0
          have HB2 := Hd.mk (HBX.out.trans B2)
          clear hX2 B2 f0 f1 f2 ff u0 u1 u2 uf e0 e1 e2 e3 e4 e5 hse HOX HBX zdX zrX ze hsX v0 v1 v2 vf
          go_wp2
          refine ⟨rfl, _, by simp [results, Try.results16, go_sem, m0, m1, m2]; (repeat' first | rfl | apply And.intro), ⟨_, rfl, Ow.nil _ _, Bl.setCell (Bl.setCell (Bl.setCell HB2.out hwr) hwr) hwr⟩⟩
        | false =>
          go_upto_region 17 with (first | (go_at_call 49; (with_reducible refine hse.mono ?_); rintro e w' ⟨rfl, hg⟩; obtain ⟨n, os, rfl⟩ := hg.out; clear hg))
          generalize hX2 : Sort.grow _ _ = X2
          have B2 : Bl X X2 := by rw [← hX2]; exact (by repeat (first | with_reducible exact Bl.refl _ | with_reducible apply Bl.alloc | with_reducible apply Bl.grow | with_reducible apply Bl.sd | with_reducible apply Bl.drewN | with_reducible apply Bl.drew))
          have v0 := (Below.cell B2 (p := ⟨d, 0, none⟩) zdX).trans f0
          have v1 := (Below.cell B2 (p := ⟨d, 1, none⟩) zdX).trans f1
          have v2 := (Below.cell B2 (p := ⟨d, 2, none⟩) zdX).trans f2
          have vf := (Below.frozen B2 (p := ⟨d, 2, none⟩) zdX).trans ff
          have m0 := (Below.cell B2 (p := ⟨b4, 0, none⟩) zrX).trans u0
          have m1 := (Below.cell B2 (p := ⟨b4, 1, none⟩) zrX).trans u1
          have m2 := (Below.cell B2 (p := ⟨b4, 2, none⟩) zrX).trans u2
          have mf : ∀ k, X2.frozen? ⟨b4, k, none⟩ = false := fun k => (Below.frozen B2 (p := ⟨b4, k, none⟩) zrX).trans (uf k)
          have c0 := (Below.cell B2 (p := ⟨wr.heap.size + 1, 0, none⟩) ze).trans e0
          have c1' := (Below.cell B2 (p := ⟨wr.heap.size + 1, 1, none⟩) ze).trans e1
          have c2 := (Below.cell B2 (p := ⟨wr.heap.size + 1, 2, none⟩) ze).trans e2
          have c3 := (Below.cell B2 (p := ⟨wr.heap.size + 1, 3, none⟩) ze).trans e3
          have c4 := (Below.cell B2 (p := ⟨wr.heap.size + 1, 4, none⟩) ze).trans e4
          have c5 := (Below.cell B2 (p := ⟨wr.heap.size + 1, 5, none⟩) ze).trans e5
          have ze2 := World.block_lt_of_cell? X2 _ c0
          have zd2 : d < X2.heap.size := World.block_lt_of_cell? X2 _ v0
          have zr2 : b4 < X2.heap.size := World.block_lt_of_cell? X2 _ m0
          have hs2 : W.heap.size ≤ X2.heap.size := Nat.le_trans hsX B2.size
          have HO2 := Hd.mk (HOX.out.bl B2)
          have HB2 := Hd.mk (HBX.out.trans B2)
          have hxx : 0 ≤ (ix : Int) := by omega
          clear hX2 B2 f0 f1 f2 ff u0 u1 u2 uf e0 e1 e2 e3 e4 e5 hse HOX HBX zdX zrX ze hsX
          dsimp only at ze2
          go_wp2_with fail
          refine (tinsert W.heap.size (.slice A1 acc.length c1) acc ix ⟨x0, x1, 1, true, x3, x4⟩ X2.heap.size _ (HO2.out.bl (by repeat (first | with_reducible exact Bl.refl _ | with_reducible apply Bl.alloc | with_reducible apply Bl.grow | with_reducible apply Bl.sd | with_reducible apply Bl.drewN | with_reducible apply Bl.drew))) (by have := HS.out.2; omega) hle (news_at _ _ _ rfl) (by intro e; have := (World.ownsRow.lt HO2.out _ e.symm).2; omega) (by simp [go_sem]; omega)).mono ?_
          rintro e w' ⟨v', rfl, hown', hgr⟩
          rw [HIns.out] at hown'
          have bA : Bl X2 (X2.alloc (Obj.cells #[Value.int IntKind.i64 x0, Value.int IntKind.i64 x1, Value.int IntKind.i64 1, Value.bool true, Value.int IntKind.i64 x3, Value.int IntKind.i64 x4] 43)) := (Bl.refl X2).alloc _
          have hb2 : Below W.heap.size X2 w' := Below.grown (B := W.heap.size) ⟨bA.os, bA.tape, bA.output, bA.size, fun k hk => bA.block k (Nat.lt_of_lt_of_le hk hs2)⟩ hgr (Nat.le_trans hs2 bA.size) (fun k hk => (World.ownsRow.lt HO2.out k hk).1)
          have n0 := (Below.cell hb2 (p := ⟨d, 0, none⟩) zd).trans v0
          have n1 := (Below.cell hb2 (p := ⟨d, 1, none⟩) zd).trans v1
          have n2 := (Below.cell hb2 (p := ⟨d, 2, none⟩) zd).trans v2
          have nf := (Below.frozen hb2 (p := ⟨d, 2, none⟩) zd).trans vf
          have l0 := (Below.cell hb2 (p := ⟨b4, 0, none⟩) zr).trans m0
          have l1 := (Below.cell hb2 (p := ⟨b4, 1, none⟩) zr).trans m1
          have l2 := (Below.cell hb2 (p := ⟨b4, 2, none⟩) zr).trans m2
          have lf : ∀ k, w'.frozen? ⟨b4, k, none⟩ = false := fun k => (Below.frozen hb2 (p := ⟨b4, k, none⟩) zr).trans (mf k)
          have hbw : Bl w w' := Bl.below_le HB2.out hb2 HB5.out.size
          have hsz : W.heap.size ≤ w'.heap.size := Nat.le_trans hs2 hb2.size
          obtain ⟨A2, c2', rfl, hc2, _⟩ := hown'.rd
          have HOw := Hd.mk hown'
          have HBw := Hd.mk hbw
          have zdw : d < w'.heap.size := World.block_lt_of_cell? w' _ n0
          clear hown' hgr bA hb2 hbw v0 v1 v2 vf m0 m1 m2 mf c0 c1' c2 c3 c4 c5
          go_wp2
          go_roundg (l.length - (k + 1))
          case measure => omega
          case rel =>
            refine ⟨k + 1, acc2, A2, c2', by omega, by omega, by go_num, ⟨by go_simp, by go_simp, by go_simp, by go_simp, by go_simp, by go_simp, by go_simp, fun k => by go_simp⟩, ⟨Ow.setCell HOw.out zd _⟩, ⟨HSor.out (by first | trivial | rfl), by have := HS.out.2; omega⟩, ⟨by rw [HF.out, HNx.out (by first | trivial | rfl)]⟩, ⟨Bl.setCell HBw.out hwd, by simp [go_sem]; omega⟩⟩
      · have hq2 : (self == x2) = false := by simp; exact fun e => h2 e.symm
        have hq2' : (x2 == self) = false := by simp; exact h2
        rw [hq2', if_neg h2] at hofx
        by_cases h3 : x3 = self
        · subst h3
          clear hskip
          go_upto_region 14 with fail
          generalize hX : World.alloc _ _ = X
          have HXe := Hd.mk hX
          clear hX
          have e0 : X.cell? ⟨wr.heap.size + 1, 0, none⟩ = some (.int .i64 x0) := by rw [← HXe.out]; go_simp
          have e1 : X.cell? ⟨wr.heap.size + 1, 1, none⟩ = some (.int .i64 x1) := by rw [← HXe.out]; go_simp
          have e2 : X.cell? ⟨wr.heap.size + 1, 2, none⟩ = some (.int .i64 1) := by rw [← HXe.out]; go_simp
          have e3 : X.cell? ⟨wr.heap.size + 1, 3, none⟩ = some (.bool false) := by rw [← HXe.out]; go_simp
          have e4 : X.cell? ⟨wr.heap.size + 1, 4, none⟩ = some (.int .i64 x2) := by rw [← HXe.out]; go_simp
          have e5 : X.cell? ⟨wr.heap.size + 1, 5, none⟩ = some (.int .i64 x4) := by rw [← HXe.out]; go_simp
          have BX : Bl wr X := by rw [← HXe.out]; exact (by repeat (first | with_reducible exact Bl.refl _ | with_reducible apply Bl.alloc | with_reducible apply Bl.grow | with_reducible apply Bl.sd | with_reducible apply Bl.drewN | with_reducible apply Bl.drew))
          have ze := World.block_lt_of_cell? X _ e0
          dsimp only at ze
          have f2 := (Below.cell BX (p := ⟨d, 2, none⟩) zdr).trans q2
          have f0 := (Below.cell BX (p := ⟨d, 0, none⟩) zdr).trans q0
          have f1 := (Below.cell BX (p := ⟨d, 1, none⟩) zdr).trans q1
          have ff := (Below.frozen BX (p := ⟨d, 2, none⟩) zdr).trans qf
          have u0 := (Below.cell BX (p := ⟨b4, 0, none⟩) zrr).trans r0
          have u1 := (Below.cell BX (p := ⟨b4, 1, none⟩) zrr).trans r1
          have u2 := (Below.cell BX (p := ⟨b4, 2, none⟩) zrr).trans r2
          have uf : ∀ k, X.frozen? ⟨b4, k, none⟩ = false := fun k => (Below.frozen BX (p := ⟨b4, k, none⟩) zrr).trans (rf k)
          have zrX : b4 < X.heap.size := World.block_lt_of_cell? X _ u0
          have zdX : d < X.heap.size := World.block_lt_of_cell? X _ f2
          have hoX := HO.out.bl BX
          obtain ⟨_, _, he1, hc1, rdX⟩ := hoX.rd
          simp only [Value.slice.injEq, true_and] at he1
          obtain ⟨rfl, rfl⟩ := he1
          have hse := tbsf A1 c1 acc ⟨x0, x1, 1, false, x2, x4⟩ X rdX hc1 HS.out.1 (by have := HS.out.2; omega)
          have hle := low_le acc ⟨x0, x1, 1, false, x2, x4⟩
          have hinl := insT_len acc ⟨x0, x1, 1, false, x2, x4⟩
          have hins : acc.take (lowT acc ⟨x0, x1, 1, false, x2, x4⟩) ++ ⟨x0, x1, 1, false, x2, x4⟩ :: acc.drop (lowT acc ⟨x0, x1, 1, false, x2, x4⟩) = insT acc ⟨x0, x1, 1, false, x2, x4⟩ := rfl
          have hsor := @insT_sorted acc ⟨x0, x1, 1, false, x2, x4⟩ HS.out.1
          have HTw := Hd.mk (htw (by simp [hofx]))
          have HNx := Hd.mk (hnx (by simp [hofx]))
          simp only [hofx] at *
          simp only [vT] at hse
          generalize insT acc ⟨x0, x1, 1, false, x2, x4⟩ = acc2 at *
          generalize lowT acc ⟨x0, x1, 1, false, x2, x4⟩ = ix at *
          generalize foundT acc ⟨x0, x1, 1, false, x2, x4⟩ = fo at *
          have HIns := Hd.mk hins
          have HSor := Hd.mk hsor
          have HBX := Hd.mk (HB.out.1.trans BX)
          have hsX : W.heap.size ≤ X.heap.size := Nat.le_trans hWr BX.size
          have HOX := Hd.mk hoX
          clear HXe hins hsor htw hnx rdX q0 q1 q2 qf r0 r1 r2 rf BX hoX k0 k1 k2 k3 k4 zdr zrr
          cases fo with
          | true =>
            have e := HRes.out
            rw [HF.out, HTw.out (by first | trivial | rfl), if_pos rfl] at e
            subst e
            clear HRes
            go_upto_region 16 with (first | (go_at_call 49; (with_reducible refine hse.mono ?_); rintro e w' ⟨rfl, hg⟩; obtain ⟨n, os, rfl⟩ := hg.out; clear hg))
            generalize hX2 : Sort.grow _ _ = X2
            have B2 : Bl X X2 := by rw [← hX2]; exact (by repeat (first | with_reducible exact Bl.refl _ | with_reducible apply Bl.alloc | with_reducible apply Bl.grow | with_reducible apply Bl.sd | with_reducible apply Bl.drewN | with_reducible apply Bl.drew))
            have v0 := (Below.cell B2 (p := ⟨d, 0, none⟩) zdX).trans f0
            have v1 := (Below.cell B2 (p := ⟨d, 1, none⟩) zdX).trans f1
            have v2 := (Below.cell B2 (p := ⟨d, 2, none⟩) zdX).trans f2
            have vf := (Below.frozen B2 (p := ⟨d, 2, none⟩) zdX).trans ff
            have m0 := (Below.cell B2 (p := ⟨b4, 0, none⟩) zrX).trans u0
            have m1 := (Below.cell B2 (p := ⟨b4, 1, none⟩) zrX).trans u1
            have m2 := (Below.cell B2 (p := ⟨b4, 2, none⟩) zrX).trans u2
            have mf : ∀ k, X2.frozen? ⟨b4, k, none⟩ = false := fun k => (Below.frozen B2 (p := ⟨b4, k, none⟩) zrX).trans (uf k)
            have zr2 : b4 < X2.heap.size := World.block_lt_of_cell? X2 _ m0
            have HB2 := Hd.mk (HBX.out.trans B2)
            clear hX2 B2 f0 f1 f2 ff u0 u1 u2 uf e0 e1 e2 e3 e4 e5 hse HOX HBX zdX zrX ze hsX v0 v1 v2 vf
            go_wp2
            refine ⟨rfl, _, by simp [results, Try.results16, go_sem, m0, m1, m2]; (repeat' first | rfl | apply And.intro), ⟨_, rfl, Ow.nil _ _, Bl.setCell (Bl.setCell (Bl.setCell HB2.out hwr) hwr) hwr⟩⟩
          | false =>
            go_upto_region 17 with (first | (go_at_call 49; (with_reducible refine hse.mono ?_); rintro e w' ⟨rfl, hg⟩; obtain ⟨n, os, rfl⟩ := hg.out; clear hg))
            generalize hX2 : Sort.grow _ _ = X2
            have B2 : Bl X X2 := by rw [← hX2]; exact (by repeat (first | with_reducible exact Bl.refl _ | with_reducible apply Bl.alloc | with_reducible apply Bl.grow | with_reducible apply Bl.sd | with_reducible apply Bl.drewN | with_reducible apply Bl.drew))
            have v0 := (Below.cell B2 (p := ⟨d, 0, none⟩) zdX).trans f0
            have v1 := (Below.cell B2 (p := ⟨d, 1, none⟩) zdX).trans f1
            have v2 := (Below.cell B2 (p := ⟨d, 2, none⟩) zdX).trans f2
            have vf := (Below.frozen B2 (p := ⟨d, 2, none⟩) zdX).trans ff
            have m0 := (Below.cell B2 (p := ⟨b4, 0, none⟩) zrX).trans u0
            have m1 := (Below.cell B2 (p := ⟨b4, 1, none⟩) zrX).trans u1
            have m2 := (Below.cell B2 (p := ⟨b4, 2, none⟩) zrX).trans u2
            have mf : ∀ k, X2.frozen? ⟨b4, k, none⟩ = false := fun k => (Below.frozen B2 (p := ⟨b4, k, none⟩) zrX).trans (uf k)
            have c0 := (Below.cell B2 (p := ⟨wr.heap.size + 1, 0, none⟩) ze).trans e0
            have c1' := (Below.cell B2 (p := ⟨wr.heap.size + 1, 1, none⟩) ze).trans e1
            have c2 := (Below.cell B2 (p := ⟨wr.heap.size + 1, 2, none⟩) ze).trans e2
            have c3 := (Below.cell B2 (p := ⟨wr.heap.size + 1, 3, none⟩) ze).trans e3
            have c4 := (Below.cell B2 (p := ⟨wr.heap.size + 1, 4, none⟩) ze).trans e4
            have c5 := (Below.cell B2 (p := ⟨wr.heap.size + 1, 5, none⟩) ze).trans e5
            have ze2 := World.block_lt_of_cell? X2 _ c0
            have zd2 : d < X2.heap.size := World.block_lt_of_cell? X2 _ v0
            have zr2 : b4 < X2.heap.size := World.block_lt_of_cell? X2 _ m0
            have hs2 : W.heap.size ≤ X2.heap.size := Nat.le_trans hsX B2.size
            have HO2 := Hd.mk (HOX.out.bl B2)
            have HB2 := Hd.mk (HBX.out.trans B2)
            have hxx : 0 ≤ (ix : Int) := by omega
            clear hX2 B2 f0 f1 f2 ff u0 u1 u2 uf e0 e1 e2 e3 e4 e5 hse HOX HBX zdX zrX ze hsX
            dsimp only at ze2
            go_wp2_with fail
            refine (tinsert W.heap.size (.slice A1 acc.length c1) acc ix ⟨x0, x1, 1, false, x2, x4⟩ X2.heap.size _ (HO2.out.bl (by repeat (first | with_reducible exact Bl.refl _ | with_reducible apply Bl.alloc | with_reducible apply Bl.grow | with_reducible apply Bl.sd | with_reducible apply Bl.drewN | with_reducible apply Bl.drew))) (by have := HS.out.2; omega) hle (news_at _ _ _ rfl) (by intro e; have := (World.ownsRow.lt HO2.out _ e.symm).2; omega) (by simp [go_sem]; omega)).mono ?_
            rintro e w' ⟨v', rfl, hown', hgr⟩
            rw [HIns.out] at hown'
            have bA : Bl X2 (X2.alloc (Obj.cells #[Value.int IntKind.i64 x0, Value.int IntKind.i64 x1, Value.int IntKind.i64 1, Value.bool false, Value.int IntKind.i64 x2, Value.int IntKind.i64 x4] 43)) := (Bl.refl X2).alloc _
            have hb2 : Below W.heap.size X2 w' := Below.grown (B := W.heap.size) ⟨bA.os, bA.tape, bA.output, bA.size, fun k hk => bA.block k (Nat.lt_of_lt_of_le hk hs2)⟩ hgr (Nat.le_trans hs2 bA.size) (fun k hk => (World.ownsRow.lt HO2.out k hk).1)
            have n0 := (Below.cell hb2 (p := ⟨d, 0, none⟩) zd).trans v0
            have n1 := (Below.cell hb2 (p := ⟨d, 1, none⟩) zd).trans v1
            have n2 := (Below.cell hb2 (p := ⟨d, 2, none⟩) zd).trans v2
            have nf := (Below.frozen hb2 (p := ⟨d, 2, none⟩) zd).trans vf
            have l0 := (Below.cell hb2 (p := ⟨b4, 0, none⟩) zr).trans m0
            have l1 := (Below.cell hb2 (p := ⟨b4, 1, none⟩) zr).trans m1
            have l2 := (Below.cell hb2 (p := ⟨b4, 2, none⟩) zr).trans m2
            have lf : ∀ k, w'.frozen? ⟨b4, k, none⟩ = false := fun k => (Below.frozen hb2 (p := ⟨b4, k, none⟩) zr).trans (mf k)
            have hbw : Bl w w' := Bl.below_le HB2.out hb2 HB5.out.size
            have hsz : W.heap.size ≤ w'.heap.size := Nat.le_trans hs2 hb2.size
            obtain ⟨A2, c2', rfl, hc2, _⟩ := hown'.rd
            have HOw := Hd.mk hown'
            have HBw := Hd.mk hbw
            have zdw : d < w'.heap.size := World.block_lt_of_cell? w' _ n0
            clear hown' hgr bA hb2 hbw v0 v1 v2 vf m0 m1 m2 mf c0 c1' c2 c3 c4 c5
            go_wp2
            go_roundg (l.length - (k + 1))
            case measure => omega
            case rel =>
              refine ⟨k + 1, acc2, A2, c2', by omega, by omega, by go_num, ⟨by go_simp, by go_simp, by go_simp, by go_simp, by go_simp, by go_simp, by go_simp, fun k => by go_simp⟩, ⟨Ow.setCell HOw.out zd _⟩, ⟨HSor.out (by first | trivial | rfl), by have := HS.out.2; omega⟩, ⟨by rw [HF.out, HNx.out (by first | trivial | rfl)]⟩, ⟨Bl.setCell HBw.out hwd, by simp [go_sem]; omega⟩⟩
        · have hq3 : (self == x3) = false := by simp; exact fun e => h3 e.symm
          have HSk := Hd.mk (hskip (fun e => e.elim h2 h3))
          clear hskip htw hnx hofx
          go_wp2
          go_roundg (l.length - (k + 1))
          case measure => omega
          case rel => exact ⟨k + 1, acc, A1, c1, by omega, by omega, by go_num, ⟨by go_simp, by go_simp, by go_simp, by go_simp, by go_simp, by go_simp, by go_simp, fun k => by go_simp⟩, ⟨HO.out.bl (by repeat (first | with_reducible exact Bl.refl _ | with_reducible apply Bl.alloc | with_reducible apply Bl.grow | with_reducible apply Bl.sd | with_reducible apply Bl.drewN | with_reducible apply Bl.drew))⟩, ⟨HS.out.1, by have := HS.out.2; omega⟩, ⟨by rw [HF.out, HSk.out]⟩, ⟨HB.out.1.trans (by repeat (first | with_reducible exact Bl.refl _ | with_reducible apply Bl.alloc | with_reducible apply Bl.grow | with_reducible apply Bl.sd | with_reducible apply Bl.drewN | with_reducible apply Bl.drew)), by simp [go_sem]; omega⟩⟩
    · obtain rfl : k = l.length := by omega
      have hltz : ¬ ((l.length : Int) < (l.length : Int)) := by omega
      have e := HF.out
      rw [ofF_end] at e
      subst e
      have e := HRes.out
      rw [if_neg (by simp)] at e
      subst e
      go_wp2
      refine ⟨rfl, _, by simp [results, Try.results16, go_sem, r0, r1, r2]; (repeat' first | rfl | apply And.intro), ⟨_, rfl, ?_, ?_⟩⟩
      · exact Ow.lower (Ow.setCell (Ow.setCell (Ow.setCell HO.out zr _) zr _) zr _) HB5.out.size
      · exact Bl.setCell (Bl.setCell (Bl.setCell HB.out.1 hwr) hwr) hwr
theorem tof (len offs self : Int) (A : Option Addr) (c : Nat) (l : List SC) (w : World) (hr : RdS w A l) (hc : l.length ≤ c) :
    Calls Try.prog 16 #[.agg #[.int .i64 len, .int .i64 offs, .slice A l.length c], .int .i64 self] w fun e w' => ∃ v, e = .returned (.tuple #[.agg #[.int .i64 (ofS len offs l self).1.n, .int .i64 (ofS len offs l self).1.len, v], .int .i64 (ofS len offs l self).2]) ∧ Ow w' w.heap.size v (ofS len offs l self).1.l ∧ Bl w w' := by
  cases h1 : rightS len offs l with
  | false => exact tof_early len offs self A c l w hr hc (.inl h1)
  | true =>
    cases h2 : win self 0 31 with
    | false => exact tof_early len offs self A c l w hr hc (.inr h2)
    | true => exact tof_main len offs self A c l w hr hc h1 h2
end Go.Proofs.Ytcknakbjiklklaa.F
