import Derived.Test.YtcknakbjiklklaaF2
import Derived.Test.YtcknakbjiklklaaS2
/- slices.BinarySearchFunc by compare. -/
namespace Go.Proofs.Ytcknakbjiklklaa.F
open Go.RowKit Go.Sort Go.Proofs.Ytcknakbjiklklaa.B Go.Proofs.Ytcknakbjiklklaa.S
set_option linter.unusedVariables false
set_option linter.unusedSimpArgs false
theorem eq45 : ∀ args W, (callFunc 45 args).run Try.prog W = .ok (.enter 45 args) W := enters_of Try.func45 (by kernel_rfl) rfl
set_option maxHeartbeats 4000000 in
theorem tbsf (A : Option Addr) (c : Nat) (l : List TC) (x : TC) (w : World) (hr : Rd w A l) (hc : l.length ≤ c) (hs : sortedT l) (h512 : l.length ≤ 512) :
    Calls Try.prog 49 #[.slice A l.length c, vT x, .func (.func 45) #[] #[]] w fun e w' => e = .returned (.tuple #[.int .i64 (lowT l x : Nat), .bool (foundT l x)]) ∧ Gr w w' := by
  have hm := mixed
  have hl := hr.1
  have HR := Hd.mk hr
  have HS := Hd.mk hs
  clear hr hs
  generalize hlw : lowT l x = lw
  have HL := Hd.mk hlw
  clear hlw
  generalize hfo : foundT l x = fo
  have HF := Hd.mk hfo
  clear hfo
  obtain ⟨t0, t1, t2, t3, t4, t5⟩ := x
  simp only [vT]
  go_enter Try.func49, Try.ntmps49
  go_upto_region 3 with fail
  generalize hW : World.alloc _ _ = W
  have HWe := Hd.mk hW
  clear hW
  have b0 : W.cell? ⟨w.heap.size, 0, none⟩ = some (.int .i64 t0) := by rw [← HWe.out]; go_simp
  have b1 : W.cell? ⟨w.heap.size, 1, none⟩ = some (.int .i64 t1) := by rw [← HWe.out]; go_simp
  have b2 : W.cell? ⟨w.heap.size, 2, none⟩ = some (.int .i64 t2) := by rw [← HWe.out]; go_simp
  have b3 : W.cell? ⟨w.heap.size, 3, none⟩ = some (.bool t3) := by rw [← HWe.out]; go_simp
  have b4 : W.cell? ⟨w.heap.size, 4, none⟩ = some (.int .i64 t4) := by rw [← HWe.out]; go_simp
  have b5 : W.cell? ⟨w.heap.size, 5, none⟩ = some (.int .i64 t5) := by rw [← HWe.out]; go_simp
  have G0 : Gr w W := by rw [← HWe.out]; exact (by repeat (first | exact Gr.refl _ | with_reducible apply Gr.alloc | with_reducible apply Gr.grow | with_reducible apply Gr.drewN | with_reducible apply Gr.drew))
  have z0 := World.block_lt_of_cell? W _ b0
  dsimp only at z0
  have HR2 := Hd.mk (HR.out.gr G0)
  have HG0 := Hd.mk G0
  clear HWe G0 HR
  go_loopg [9, 10, 11] l.length (fun gg s9 s10 s11 wr => ∃ lo hi : Nat, s9 = .int .i64 lo ∧ s10 = .int .i64 hi ∧ lo ≤ hi ∧ hi ≤ l.length ∧ hi - lo ≤ gg ∧ Hd (Gr W wr) ∧
    Hd ((∀ j, j < lo → lessT (nth l j) ⟨t0, t1, t2, t3, t4, t5⟩) ∧ (∀ j, hi ≤ j → j < l.length → ¬ lessT (nth l j) ⟨t0, t1, t2, t3, t4, t5⟩)))
  case atStart => exact ⟨0, l.length, rfl, rfl, Nat.zero_le _, Nat.le_refl _, by omega, ⟨Gr.refl _⟩, ⟨fun j hj => absurd hj (Nat.not_lt_zero _), fun j h1 h2 => by omega⟩⟩
  case round =>
    obtain ⟨lo, hi, rfl, rfl, hlh, hin, hg, GW, I⟩ := hrel
    have hbl := GW.out.below
    have o := fun (q : Nat) => hbl.cell (p := ⟨w.heap.size, q, none⟩) z0
    have d0 := (o 0).trans b0
    have d1 := (o 1).trans b1
    have d2 := (o 2).trans b2
    have d3 := (o 3).trans b3
    have d4 := (o 4).trans b4
    have d5 := (o 5).trans b5
    have zd := World.block_lt_of_cell? wr _ d0
    dsimp only at zd
    by_cases hlt : lo < hi
    · obtain ⟨b, off, rfl, hb, hcell⟩ := HR2.out.2 (by omega)
      obtain ⟨k0, k1, k2, k3, k4, k5⟩ := hcell ((lo + hi) / 2) (by omega)
      have o2 := fun (q : Nat) => hbl.cell (p := ⟨b, q, none⟩) hb
      rw [← o2] at k0 k1 k2 k3 k4 k5
      have zb := World.block_lt_of_cell? wr _ k0
      dsimp only at zb
      generalize hx : nth l ((lo + hi) / 2) = x at *
      obtain ⟨x0, x1, x2, x3, x4, x5⟩ := x
      dsimp only at *
      have HX := Hd.mk hx
      clear hx
      have hlt' : (lo : Int) < (hi : Int) := by omega
      have hlo : (lo : Int) ≤ 512 := by omega
      have hhi : (hi : Int) ≤ 512 := by omega
      have hcm := ccompare x0 x1 x2 x4 x5 t0 t1 t2 t4 t5 x3 t3
      have hneg := cmpT_neg ⟨x0, x1, x2, x3, x4, x5⟩ ⟨t0, t1, t2, t3, t4, t5⟩
      generalize cmpT ⟨x0, x1, x2, x3, x4, x5⟩ ⟨t0, t1, t2, t3, t4, t5⟩ = q at *
      have HNeg := Hd.mk hneg
      clear o o2 hbl b0 b1 b2 b3 b4 b5 hcell hneg
      generalize hmd : (lo + hi) / 2 = md at *
      have hmi : ((lo : Int) + (hi : Int)) / 2 = (md : Int) := by omega
      have hmdl : md < l.length := by omega
      have hlm : lo ≤ md := by omega
      have hmh : md < hi := by omega
      have HMi := Hd.mk hmi
      clear hmi hmd
      go_upto_region 5 with fail
      rw [HMi.out]
      have hltz : (md : Int) < (l.length : Int) := by omega
      have hmz : (0 : Int) ≤ (md : Int) := by omega
      have hdiv : (l.length : Int) ≤ 512 := by omega
      go_quiet_grown (first | (go_at_call 45; with_reducible exact quiet_grown rfl (hcm _)))
      go_wp2
      · have h' := HNeg.out.1 (by assumption)
        go_roundg (hi - (md + 1))
        case measure => omega
        case rel =>
          refine ⟨md + 1, hi, by go_num, rfl, by omega, hin, Nat.le_refl _, ⟨GW.out.trans (by repeat (first | exact Gr.refl _ | with_reducible apply Gr.alloc | with_reducible apply Gr.grow | with_reducible apply Gr.drewN | with_reducible apply Gr.drew))⟩, ⟨fun j hj => ?_, I.out.2⟩⟩
          rcases Nat.lt_or_ge j md with e | e
          · have := HS.out j md e (by omega)
            rw [HX.out] at this
            exact lessT_trans this h'
          · obtain rfl : j = md := by omega
            rw [HX.out]; exact h'
      · have h' : ¬ lessT ⟨x0, x1, x2, x3, x4, x5⟩ ⟨t0, t1, t2, t3, t4, t5⟩ := fun hh => by have := HNeg.out.2 hh; omega
        go_roundg (md - lo)
        case measure => omega
        case rel =>
          refine ⟨lo, md, rfl, rfl, by omega, by omega, Nat.le_refl _, ⟨GW.out.trans (by repeat (first | exact Gr.refl _ | with_reducible apply Gr.alloc | with_reducible apply Gr.grow | with_reducible apply Gr.drewN | with_reducible apply Gr.drew))⟩, ⟨I.out.1, fun j hj hjl => ?_⟩⟩
          rcases Nat.lt_or_ge md j with e | e
          · have := HS.out md j e hjl
            rw [HX.out] at this
            exact fun hh => h' (lessT_trans this hh)
          · obtain rfl : j = md := by omega
            rw [HX.out]; exact h'
    · obtain rfl : hi = lo := by omega
      have hlow : lw = hi := HL.out.symm.trans (low_boundary _ l hi hin I.out.1 I.out.2)
      have hfo : fo = decide (hi < l.length ∧ sameP (nth l hi) ⟨t0, t1, t2, t3, t4, t5⟩) := by rw [← hlow, ← HL.out]; exact HF.out.symm
      have HLo := Hd.mk hlow
      have HFo := Hd.mk hfo
      clear hlow hfo
      have hltz0 : ¬ (hi : Int) < (hi : Int) := by omega
      by_cases hn : hi < l.length
      · obtain ⟨b, off, rfl, hb, hcell⟩ := HR2.out.2 (by omega)
        obtain ⟨k0, k1, k2, k3, k4, k5⟩ := hcell hi (by omega)
        have o2 := fun (q : Nat) => hbl.cell (p := ⟨b, q, none⟩) hb
        rw [← o2] at k0 k1 k2 k3 k4 k5
        have zb := World.block_lt_of_cell? wr _ k0
        dsimp only at zb
        generalize hx : nth l hi = x at *
        obtain ⟨x0, x1, x2, x3, x4, x5⟩ := x
        dsimp only at *
        have hcm := ccompare x0 x1 x2 x4 x5 t0 t1 t2 t4 t5 x3 t3
        have hzero := cmpT_zero ⟨x0, x1, x2, x3, x4, x5⟩ ⟨t0, t1, t2, t3, t4, t5⟩
        generalize cmpT ⟨x0, x1, x2, x3, x4, x5⟩ ⟨t0, t1, t2, t3, t4, t5⟩ = q at *
        have HZero := Hd.mk hzero
        have hn' : (hi : Int) < (l.length : Int) := by omega
        have hd8 : decide ((hi : Int) < (l.length : Int)) = true := decide_eq_true hn'
        have hz' : (0 : Int) ≤ (hi : Int) := by omega
        clear o o2 hbl b0 b1 b2 b3 b4 b5 hcell hzero hx
        go_upto_region 8 with fail
        go_quiet_grown (first | (go_at_call 45; with_reducible exact quiet_grown rfl (hcm _)))
        go_wp2
        go_ret2
        refine ⟨?_, HG0.out.trans (GW.out.trans (by repeat (first | exact Gr.refl _ | with_reducible apply Gr.alloc | with_reducible apply Gr.grow | with_reducible apply Gr.drewN | with_reducible apply Gr.drew)))⟩
        rw [HLo.out, HFo.out, show (q == 0) = decide (hi < l.length ∧ sameP ⟨x0, x1, x2, x3, x4, x5⟩ ⟨t0, t1, t2, t3, t4, t5⟩) from by
          rw [Bool.eq_iff_iff]
          simp only [beq_iff_eq, decide_eq_true_eq]
          rw [HZero.out]
          exact ⟨fun h => ⟨hn, h⟩, fun h => h.2⟩]
        first | rfl | (simp; done)
      · have hd8 : decide ((hi : Int) < (l.length : Int)) = false := decide_eq_false (by omega)
        clear hbl o b0 b1 b2 b3 b4 b5
        go_upto_region 8 with fail
        go_quiet (fail)
        go_wp2
        go_ret2
        exact ⟨by rw [HLo.out, HFo.out, show decide (hi < l.length ∧ sameP (nth l hi) ⟨t0, t1, t2, t3, t4, t5⟩) = false from by simp [hn]]; first | rfl | (simp; done), HG0.out.trans (GW.out.trans (by repeat (first | exact Gr.refl _ | with_reducible apply Gr.alloc | with_reducible apply Gr.grow | with_reducible apply Gr.drewN | with_reducible apply Gr.drew)))⟩
end Go.Proofs.Ytcknakbjiklklaa.F
