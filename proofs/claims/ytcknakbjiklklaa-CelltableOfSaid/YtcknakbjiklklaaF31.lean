import Derived.Test.YtcknakbjiklklaaF30
import Derived.Test.YtcknakbjiklklaaH1
import Derived.Test.YtcknakbjiklklaaS9
/- hopmeshref16.Of. -/
namespace Go.Proofs.Ytcknakbjiklklaa.F
open Go.RowKit Go.Sort Go.Proofs.Ytcknakbjiklklaa.B Go.Proofs.Ytcknakbjiklklaa.S
set_option linter.unusedVariables false
set_option linter.unusedSimpArgs false
set_option maxHeartbeats 4000000 in
theorem xof_early (len offs self : Int) (A : Option Addr) (c : Nat) (l : List SC) (w : World) (hr : RdS w A l) (hc : l.length ≤ c) (hh : rightS len offs l = false ∨ win self 0 31 = false) :
    Calls Try.prog 17 #[.agg #[.int .i64 len, .int .i64 offs, .slice A l.length c], .int .i64 self] w fun e w' => ∃ v, e = .returned (.tuple #[.agg #[.int .i64 (ofS len offs l self).1.n, .int .i64 (ofS len offs l self).1.len, v], .int .i64 (ofS len offs l self).2]) ∧ Ow w' w.heap.size v (ofS len offs l self).1.l ∧ Bl w w' := by
  have hC : ∀ W, Gr w W → _ := fun W h => qformed len offs A c l W (hr.gr h) hc
  cases h1 : rightS len offs l with
  | false =>
    have hs : ofS len offs l self = (⟨0, 0, []⟩, 1) := by unfold ofS; rw [if_pos h1]
    rw [hs]
    rw [h1] at hC
    clear hr hs hh h1
    go_enter Try.func17, Try.ntmps17
    go_wp2_with (first | (go_at_call 51; (with_reducible refine (hC _ (by repeat (first | exact Gr.refl _ | with_reducible apply Gr.alloc | with_reducible apply Gr.grow | with_reducible apply Gr.drewN | with_reducible apply Gr.drew))).mono ?_); rintro e w' ⟨rfl, hg⟩; obtain ⟨n, os, rfl⟩ := hg.out; clear hg))
    refine ⟨rfl, _, by simp [results, Try.results17, go_sem]; (repeat' first | rfl | apply And.intro), ⟨_, rfl, Ow.nil _ _, (by repeat (first | exact Bl.refl _ | with_reducible apply Bl.alloc | with_reducible apply Bl.grow | with_reducible apply Bl.sd | with_reducible apply Bl.drewN | with_reducible apply Bl.drew))⟩⟩
  | true =>
    have h2 : win self 0 31 = false := hh.resolve_left (by rw [h1]; decide)
    have hs : ofS len offs l self = (⟨0, 0, []⟩, 2) := by unfold ofS; rw [if_neg (by rw [h1]; decide), if_pos h2]
    rw [hs]
    rw [h1] at hC
    rw [win_not] at h2
    have hq : self < 0 ∨ ¬ self < 0 ∧ 32 ≤ self := by omega
    clear hr hs hh h1 h2
    rcases hq with h | ⟨h, h'⟩
    all_goals
      go_enter Try.func17, Try.ntmps17
      go_wp2_with (first | (go_at_call 51; (with_reducible refine (hC _ (by repeat (first | exact Gr.refl _ | with_reducible apply Gr.alloc | with_reducible apply Gr.grow | with_reducible apply Gr.drewN | with_reducible apply Gr.drew))).mono ?_); rintro e w' ⟨rfl, hg⟩; obtain ⟨n, os, rfl⟩ := hg.out; clear hg))
      refine ⟨rfl, _, by simp [results, Try.results17, go_sem]; (repeat' first | rfl | apply And.intro), ⟨_, rfl, Ow.nil _ _, (by repeat (first | exact Bl.refl _ | with_reducible apply Bl.alloc | with_reducible apply Bl.grow | with_reducible apply Bl.sd | with_reducible apply Bl.drewN | with_reducible apply Bl.drew))⟩⟩
set_option maxHeartbeats 4000000 in
set_option maxRecDepth 100000 in
theorem xof_main (len offs self : Int) (A : Option Addr) (c : Nat) (l : List SC) (w : World) (hr : RdS w A l) (hc : l.length ≤ c) (h1 : rightS len offs l = true) (h2 : win self 0 31 = true) :
    Calls Try.prog 17 #[.agg #[.int .i64 len, .int .i64 offs, .slice A l.length c], .int .i64 self] w fun e w' => ∃ v, e = .returned (.tuple #[.agg #[.int .i64 (ofS len offs l self).1.n, .int .i64 (ofS len offs l self).1.len, v], .int .i64 (ofS len offs l self).2]) ∧ Ow w' w.heap.size v (ofS len offs l self).1.l ∧ Bl w w' := by
  have hC : ∀ W, Gr w W → _ := fun W h => qformed len offs A c l W (hr.gr h) hc
  obtain ⟨_, _, hl512, hgood⟩ := right_ok h1
  have hs : ofS len offs l self = if (ofF self [] l).2 = false then (⟨0, 0, []⟩, 16) else (⟨self, len, (ofF self [] l).1⟩, 0) := by
    unfold ofS; rw [if_neg (by rw [h1]; decide), if_neg (by rw [h2]; decide)]
  rw [hs]
  rw [h1] at hC
  rw [win_iff] at h2
  obtain ⟨s0, s1⟩ := h2
  have s0' : ¬ self < 0 := by omega
  have s1' : ¬ 32 ≤ self := by omega
  have HR := Hd.mk hr
  have HGood := Hd.mk hgood
  clear hr hs h1 hgood
  generalize hfin : ofF self [] l = fin
  have HFin := Hd.mk hfin
  clear hfin
  generalize hres : (if fin.2 = false then ((⟨0, 0, []⟩, 16) : Tb × Int) else (⟨self, len, fin.1⟩, 0)) = res
  have HRes := Hd.mk hres
  clear hres
  go_enter Try.func17, Try.ntmps17
  go_upto_region 7 with (first | (go_at_call 51; (with_reducible refine (hC _ (by repeat (first | exact Gr.refl _ | with_reducible apply Gr.alloc | with_reducible apply Gr.grow | with_reducible apply Gr.drewN | with_reducible apply Gr.drew))).mono ?_); rintro e w' ⟨rfl, hg⟩; obtain ⟨n, os, rfl⟩ := hg.out; clear hg))
  generalize hW : World.alloc _ _ = W
  have HWe := Hd.mk hW
  clear hW
  have t0 : T3 W (w.heap.size + (2 + os.size)) self len (.slice none 0 0) := ⟨by rw [← HWe.out]; simp [go_sem], by rw [← HWe.out]; go_simp, by rw [← HWe.out]; go_simp, by rw [← HWe.out]; go_simp, fun k => by rw [← HWe.out]; go_simp⟩
  have t1 : T3 W (w.heap.size + 1) 0 0 (.slice none 0 0) := ⟨by rw [← HWe.out]; simp [go_sem], by rw [← HWe.out]; go_simp, by rw [← HWe.out]; go_simp, by rw [← HWe.out]; go_simp, fun k => by rw [← HWe.out]; go_simp⟩
  have t2 : T3 W w.heap.size len offs (.slice A l.length c) := ⟨by rw [← HWe.out]; simp [go_sem], by rw [← HWe.out]; go_simp, by rw [← HWe.out]; go_simp, by rw [← HWe.out]; go_simp, fun k => by rw [← HWe.out]; go_simp⟩
  have hB5 : Bl w W := by rw [← HWe.out]; exact (by repeat (first | exact Bl.refl _ | with_reducible apply Bl.alloc | with_reducible apply Bl.grow | with_reducible apply Bl.sd | with_reducible apply Bl.drewN | with_reducible apply Bl.drew))
  have hwd : w.heap.size ≤ w.heap.size + (2 + os.size) := by omega
  have hwr : w.heap.size ≤ w.heap.size + 1 := by omega
  have hne : w.heap.size + 1 ≠ w.heap.size + (2 + os.size) := by omega
  have hne2 : w.heap.size ≠ w.heap.size + (2 + os.size) := by omega
  have HB5 := Hd.mk hB5
  have HT0 := Hd.mk t0
  have HT1 := Hd.mk t1
  have HT2 := Hd.mk t2
  have zdW := t0.lt
  have zrW := t1.lt
  have zsW := t2.lt
  clear HWe hB5 hC t0 t1 t2
  generalize w.heap.size + (2 + os.size) = d at *
  generalize hb4 : w.heap.size + 1 = b4 at *
  clear hb4
  generalize hw0 : w.heap.size = w0 at *
  go_loopg [7, 8] l.length (fun gg s7 s8 wr => ∃ (k : Nat) (acc : List TC) (A1 : Option Addr) (c1 : Nat), k ≤ l.length ∧ l.length - k ≤ gg ∧ s7 = .int .i64 k ∧
    Hd (T3 wr d self len (.slice A1 acc.length c1)) ∧ Hd (T3 wr b4 0 0 (.slice none 0 0)) ∧ Hd (T3 wr w0 len offs (.slice A l.length c)) ∧
    Hd (Ow wr W.heap.size (.slice A1 acc.length c1) acc) ∧ Hd (sortedT acc ∧ acc.length ≤ k) ∧ Hd (fin = ofF self acc (l.drop k)) ∧ Hd (Bl w wr ∧ W.heap.size ≤ wr.heap.size))
  case atStart => exact ⟨0, [], none, 0, Nat.zero_le _, by omega, rfl, HT0, HT1, HT2, ⟨Ow.nil _ _⟩, ⟨sorted_nil, Nat.le_refl _⟩, ⟨HFin.out.symm⟩, ⟨HB5.out, Nat.le_refl _⟩⟩
  case round =>
    obtain ⟨k, acc, A1, c1, hk, hg, rfl, HD, HE, HS0, HO, HS, HF, HB⟩ := hrel
    clear HT0 HT1 HT2
    obtain ⟨zd, q0, q1, q2, qf⟩ := HD.out
    obtain ⟨zr, r0, r1, r2, rf⟩ := HE.out
    obtain ⟨zs, p0, p1, p2, pf⟩ := HS0.out
    have hWr := HB.out.2
    by_cases hlt : k < l.length
    · obtain ⟨b, off, rfl, hb, hcell⟩ := (HR.out.bl HB.out.1).2 (by omega)
      obtain ⟨k0, k1, k2, k3, k4⟩ := hcell k hlt
      have hltz : (k : Int) < (l.length : Int) := by omega
      have hkz : (0 : Int) ≤ (k : Int) := by omega
      have hskip := ofF_skip (self := self) (acc := acc) hlt
      have htw := ofF_twice (self := self) (acc := acc) hlt
      have hnx := ofF_next (self := self) (acc := acc) hlt
      obtain ⟨_, _, ⟨f0, f1⟩, ⟨f2, f3⟩, _⟩ := bad_not (HGood.out k hlt)
      have hofx : ofX self (nth l k) = ⟨(nth l k).sl, (nth l k).off, 1, (nth l k).fr == self, if (nth l k).fr = self then (nth l k).tt else (nth l k).fr, (nth l k).fl⟩ := rfl
      clear hcell
      generalize nth l k = x at *
      obtain ⟨x0, x1, x2, x3, x4⟩ := x
      dsimp only at *
      by_cases h23 : x2 = self ∨ x3 = self
      · have hq : (x2 != self) = false ∨ (x2 != self) = true ∧ (x3 != self) = false := by
          by_cases h2 : x2 = self
          · exact .inl (by simp [h2])
          · exact .inr ⟨by simp [h2], by simp [h23.resolve_left h2]⟩
        have hpe0 : x2 + x3 - self = if x2 = self then x3 else x2 := by
          by_cases h2 : x2 = self
          · rw [if_pos h2]; omega
          · rw [if_neg h2]; have := h23.resolve_left h2; omega
        rw [← hpe0] at hofx
        have HTw := Hd.mk (htw h23)
        have HNx := Hd.mk (hnx h23)
        generalize hpe : x2 + x3 - self = pe at *
        generalize hbb : (x2 == self) = bb at *
        have HOfx := Hd.mk hofx
        clear hskip htw hnx hpe0 hofx h23
        rcases hq with hq | ⟨hq, hq'⟩
        all_goals
          go_upto_region 11 with fail
          generalize hX : World.alloc _ _ = X
          have HXe := Hd.mk hX
          clear hX
          have e0 : X.cell? ⟨wr.heap.size, 0, none⟩ = some (.int .i64 x0) := by rw [← HXe.out]; go_simp
          have e1 : X.cell? ⟨wr.heap.size, 1, none⟩ = some (.int .i64 x1) := by rw [← HXe.out]; go_simp
          have e2 : X.cell? ⟨wr.heap.size, 2, none⟩ = some (.int .i64 x2) := by rw [← HXe.out]; go_simp
          have e3 : X.cell? ⟨wr.heap.size, 3, none⟩ = some (.int .i64 x3) := by rw [← HXe.out]; go_simp
          have e4 : X.cell? ⟨wr.heap.size, 4, none⟩ = some (.int .i64 x4) := by rw [← HXe.out]; go_simp
          have BX : Bl wr X := by rw [← HXe.out]; exact (by repeat (first | with_reducible exact Bl.refl _ | with_reducible apply Bl.alloc | with_reducible apply Bl.grow | with_reducible apply Bl.sd | with_reducible apply Bl.drewN | with_reducible apply Bl.drew))
          have ze := World.block_lt_of_cell? X _ e0
          dsimp only at ze
          have HBX := Hd.mk (And.intro (HB.out.1.trans BX) (Nat.le_trans hWr BX.size))
          have HDX := Hd.mk (HD.out.bl BX)
          have HEX := Hd.mk (HE.out.bl BX)
          have HSX := Hd.mk (HS0.out.bl BX)
          have hoX := HO.out.bl BX
          generalize wr.heap.size = ec at *
          obtain ⟨_, _, he1, hc1, rdX⟩ := hoX.rd
          simp only [Value.slice.injEq, true_and] at he1
          obtain ⟨rfl, rfl⟩ := he1
          have htk : ∀ W, _ → _ := fun W (h : Gr X W) => qtaken A1 c1 acc x0 1 W (rdX.gr h) hc1
          rw [show acc.any (takenP x0 1) = foundT acc ⟨x0, x1, 1, bb, pe, x4⟩ from taken_found (x := ⟨x0, x1, 1, bb, pe, x4⟩) HS.out.1] at htk
          have HOX := Hd.mk hoX
          have HRdX := Hd.mk rdX
          have hput : ∀ W, _ → _ := fun W (h : Gr X W) => qput A1 c1 acc ⟨x0, x1, 1, bb, pe, x4⟩ W (rdX.gr h) hc1 HS.out.1 (by have := HS.out.2; omega)
          have HSor := Hd.mk (@insT_sorted acc ⟨x0, x1, 1, bb, pe, x4⟩ HS.out.1)
          have HLn := Hd.mk (insT_len acc ⟨x0, x1, 1, bb, pe, x4⟩)
          rw [HOfx.out] at HTw HNx
          simp only [vT] at hput
          generalize insT acc ⟨x0, x1, 1, bb, pe, x4⟩ = acc2 at *
          generalize foundT acc ⟨x0, x1, 1, bb, pe, x4⟩ = fo at *
          clear HXe rdX q0 q1 q2 qf r0 r1 r2 rf p0 p1 p2 pf BX hoX k0 k1 k2 k3 k4 zd zr zs hb HD HE HS0 HO HOfx
          obtain ⟨xd, y0, y1, y2, yf⟩ := HDX.out
          obtain ⟨xs, z0, z1, z2, zf⟩ := HSX.out
          cases fo with
          | true =>
            have e := HRes.out
            rw [HF.out, HTw.out (by first | trivial | rfl), if_pos rfl] at e
            subst e
            clear HRes hput
            go_upto_region 12 with (first | (go_at_call 52; (with_reducible refine (htk _ (by repeat (first | exact Gr.refl _ | with_reducible apply Gr.alloc | with_reducible apply Gr.grow | with_reducible apply Gr.drewN | with_reducible apply Gr.drew))).mono ?_); rintro e w' ⟨rfl, hg⟩; obtain ⟨n, os, rfl⟩ := hg.out; clear hg))
            generalize hX2 : Sort.grow _ _ = X2
            have B2 : Bl X X2 := by rw [← hX2]; exact (by repeat (first | with_reducible exact Bl.refl _ | with_reducible apply Bl.alloc | with_reducible apply Bl.grow | with_reducible apply Bl.sd | with_reducible apply Bl.drewN | with_reducible apply Bl.drew))
            obtain ⟨xr, v0, v1, v2, vf⟩ := HEX.out.bl B2
            have HB2 := Hd.mk (HBX.out.1.trans B2)
            clear hX2 B2 e0 e1 e2 e3 e4 xd y0 y1 y2 yf xs z0 z1 z2 zf ze htk
            subst hw0
            go_wp2
            refine ⟨rfl, _, by simp [results, Try.results17, go_sem, v0, v1, v2]; (repeat' first | rfl | apply And.intro), ⟨_, rfl, Ow.nil _ _, Bl.setCell (Bl.setCell (Bl.setCell HB2.out hwr) hwr) hwr⟩⟩
          | false =>
            go_upto_region 13 with (first | (go_at_call 52; (with_reducible refine (htk _ (by repeat (first | exact Gr.refl _ | with_reducible apply Gr.alloc | with_reducible apply Gr.grow | with_reducible apply Gr.drewN | with_reducible apply Gr.drew))).mono ?_); rintro e w' ⟨rfl, hg⟩; obtain ⟨n, os, rfl⟩ := hg.out; clear hg))
            generalize hX2 : Sort.grow _ _ = X2
            have hg2 : Gr X X2 := by rw [← hX2]; exact (by repeat (first | exact Gr.refl _ | with_reducible apply Gr.alloc | with_reducible apply Gr.grow | with_reducible apply Gr.drewN | with_reducible apply Gr.drew))
            have hpu := hput X2 hg2
            have HD2 := Hd.mk (HDX.out.bl hg2.bl)
            have HE2 := Hd.mk (HEX.out.bl hg2.bl)
            have HS2 := Hd.mk (HSX.out.bl hg2.bl)
            have oe := fun q => Below.cell hg2.bl (p := ⟨ec, q, none⟩) ze
            have c0 := (oe 0).trans e0
            have c1' := (oe 1).trans e1
            have c2 := (oe 2).trans e2
            have c3 := (oe 3).trans e3
            have c4 := (oe 4).trans e4
            have ze2 : ec < X2.heap.size := World.block_lt_of_cell? X2 _ c0
            obtain ⟨xd', w0', w1', w2', wf'⟩ := HD2.out
            have hwp1 : IntKind.i64.wrap (x2 + x3) = x2 + x3 := IntWalk.i64_in _ (by omega)
            have HBX2 := Hd.mk (And.intro (HBX.out.1.trans hg2.bl) (Nat.le_trans HBX.out.2 hg2.size))
            clear hX2 hg2 oe e0 e1 e2 e3 e4 xd y0 y1 y2 yf xs z0 z1 z2 zf ze htk hput HBX HDX HEX HSX
            go_wp2_with fail
            refine hpu.mono ?_
            rintro e W5 ⟨v5, rfl, ho5, hb5⟩
            obtain ⟨A5, c5, rfl, hc5, rd5⟩ := ho5.rd
            have HD5 := Hd.mk (HD2.out.bl hb5)
            have HE5 := Hd.mk (HE2.out.bl hb5)
            have HS5 := Hd.mk (HS2.out.bl hb5)
            have HO5 := Hd.mk (Ow.lower ho5 HBX2.out.2)
            have HB5' := Hd.mk (And.intro (HBX2.out.1.trans hb5) (Nat.le_trans HBX2.out.2 hb5.size))
            clear c0 c1' c2 c3 c4 ze2 xd' w0' w1' w2' wf' hpu ho5 rd5 hb5 HD2 HE2 HS2
            obtain ⟨xd, y0, y1, y2, yf⟩ := HD5.out
            obtain ⟨xr, v0, v1, v2, vf⟩ := HE5.out
            obtain ⟨xs, z0, z1, z2, zf⟩ := HS5.out
            go_wp2
            go_roundg (l.length - (k + 1))
            case measure => omega
            case rel =>
              refine ⟨k + 1, acc2, A5, c5, by omega, by omega, by go_num, ⟨⟨by simp [go_sem]; omega, by go_simp, by go_simp, by go_simp, fun k => by go_simp⟩⟩, ⟨⟨by simp [go_sem]; omega, by go_simp, by go_simp, by go_simp, fun k => by go_simp⟩⟩, ⟨⟨by simp [go_sem]; omega, by go_simp, by go_simp, by go_simp, fun k => by go_simp⟩⟩,
                ⟨Ow.setCell HO5.out zdW _⟩, ⟨HSor.out (by first | trivial | rfl), by have := HS.out.2; have := HLn.out; omega⟩, ⟨by rw [HF.out, HNx.out (by first | trivial | rfl)]⟩, ⟨Bl.setCell HB5'.out.1 (by omega), by simp [go_sem]; have := HB5'.out.2; omega⟩⟩
      · have hq2 : (x2 != self) = true := by simp; exact fun e => h23 (.inl e)
        have hq3 : (x3 != self) = true := by simp; exact fun e => h23 (.inr e)
        have HSk := Hd.mk (hskip h23)
        clear hskip htw hnx hofx h23
        go_wp2
        go_roundg (l.length - (k + 1))
        case measure => omega
        case rel => exact ⟨k + 1, acc, A1, c1, by omega, by omega, by go_num, ⟨HD.out.bl (by repeat (first | with_reducible exact Bl.refl _ | with_reducible apply Bl.alloc | with_reducible apply Bl.grow | with_reducible apply Bl.sd | with_reducible apply Bl.drewN | with_reducible apply Bl.drew))⟩, ⟨HE.out.bl (by repeat (first | with_reducible exact Bl.refl _ | with_reducible apply Bl.alloc | with_reducible apply Bl.grow | with_reducible apply Bl.sd | with_reducible apply Bl.drewN | with_reducible apply Bl.drew))⟩, ⟨HS0.out.bl (by repeat (first | with_reducible exact Bl.refl _ | with_reducible apply Bl.alloc | with_reducible apply Bl.grow | with_reducible apply Bl.sd | with_reducible apply Bl.drewN | with_reducible apply Bl.drew))⟩, ⟨HO.out.bl (by repeat (first | with_reducible exact Bl.refl _ | with_reducible apply Bl.alloc | with_reducible apply Bl.grow | with_reducible apply Bl.sd | with_reducible apply Bl.drewN | with_reducible apply Bl.drew))⟩, ⟨HS.out.1, by have := HS.out.2; omega⟩, ⟨by rw [HF.out, HSk.out]⟩, ⟨HB.out.1.trans (by repeat (first | with_reducible exact Bl.refl _ | with_reducible apply Bl.alloc | with_reducible apply Bl.grow | with_reducible apply Bl.sd | with_reducible apply Bl.drewN | with_reducible apply Bl.drew)), by simp [go_sem]; omega⟩⟩
    · obtain rfl : k = l.length := by omega
      have hltz : ¬ ((l.length : Int) < (l.length : Int)) := by omega
      have e := HF.out
      rw [ofF_end] at e
      subst e
      have e := HRes.out
      rw [if_neg (by simp)] at e
      subst e
      subst hw0
      go_wp2
      refine ⟨rfl, _, by simp [results, Try.results17, go_sem, r0, r1, r2]; (repeat' first | rfl | apply And.intro), ⟨_, rfl, ?_, ?_⟩⟩
      · exact Ow.lower (Ow.setCell (Ow.setCell (Ow.setCell HO.out zrW _) zrW _) zrW _) HB5.out.size
      · exact Bl.setCell (Bl.setCell (Bl.setCell HB.out.1 hwr) hwr) hwr
end Go.Proofs.Ytcknakbjiklklaa.F
