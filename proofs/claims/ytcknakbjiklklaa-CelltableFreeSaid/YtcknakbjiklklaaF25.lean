import Derived.Test.YtcknakbjiklklaaF20
import Derived.Test.YtcknakbjiklklaaF8
import Derived.Test.YtcknakbjiklklaaS8
/- hopmeshref16.Between. -/
namespace Go.Proofs.Ytcknakbjiklklaa.F
open Go.RowKit Go.Sort Go.Proofs.Ytcknakbjiklklaa.B Go.Proofs.Ytcknakbjiklklaa.S
set_option linter.unusedVariables false
set_option linter.unusedSimpArgs false
set_option maxHeartbeats 4000000 in
set_option maxRecDepth 100000 in
theorem xbetween (nd len : Int) (A : Option Addr) (c : Nat) (l : List TC) (peer : Int) (w : World) (hr : Rd w A l) (hc : l.length ≤ c) :
    Calls Try.prog 29 #[.agg #[.int .i64 nd, .int .i64 len, .slice A l.length c], .int .i64 peer] w fun e w' => ∃ v, e = .returned v ∧ Ow w' w.heap.size v (betS nd len l peer) ∧ Bl w w' := by
  obtain ⟨i0, hi, hz0, hz1, hz2⟩ := info_of infoE
  have hC : ∀ W, Gr w W → _ := fun W h => xcheck nd len A c l W (hr.gr h) hc
  by_cases h1 : checkT nd len l = 0
  · obtain ⟨_, _, h512, _, _⟩ := checkT_ok h1
    have hs : betS nd len l peer = l.filter (agreed peer) := by unfold betS; rw [if_neg (by simp [h1])]
    rw [hs]
    rw [h1] at hC
    have HR := Hd.mk hr
    clear hr h1 hs
    generalize hfin : l.filter (agreed peer) = fin
    have HFin := Hd.mk hfin
    clear hfin
    go_enter Try.func29, Try.ntmps29
    go_upto_region 5 with (first | (go_at_call 14; (with_reducible refine (hC _ (by repeat (first | exact Gr.refl _ | with_reducible apply Gr.alloc | with_reducible apply Gr.grow | with_reducible apply Gr.drewN | with_reducible apply Gr.drew))).mono ?_); rintro e w' ⟨rfl, hg⟩; obtain ⟨n1, os1, rfl⟩ := hg.out; clear hg))
    generalize hW : Sort.grow _ _ = W
    have HWe := Hd.mk hW
    clear hW
    have b2 : W.cell? ⟨w.heap.size, 2, none⟩ = some (.slice A l.length c) := by rw [← HWe.out]; go_simp
    have B0 : Bl w W := by rw [← HWe.out]; exact (by repeat (first | exact Bl.refl _ | with_reducible apply Bl.alloc | with_reducible apply Bl.grow | with_reducible apply Bl.sd | with_reducible apply Bl.drewN | with_reducible apply Bl.drew))
    have z0 := World.block_lt_of_cell? W _ b2
    dsimp only at z0
    have HB0 := Hd.mk B0
    have hws := B0.size
    have HR2 := Hd.mk (HR.out.bl B0)
    clear HWe B0 hC HR
    go_loopg [5, 6] l.length (fun gg s5 s6 wr => ∃ k : Nat, k ≤ l.length ∧ l.length - k ≤ gg ∧ s6 = .int .i64 k ∧ Hd (Ow wr W.heap.size s5 ((l.take k).filter (agreed peer))) ∧ Hd (Bl W wr))
    case atStart => exact ⟨0, Nat.zero_le _, by omega, rfl, ⟨Ow.nil _ _⟩, ⟨Bl.refl _⟩⟩
    case round =>
      obtain ⟨k, hk, hg, rfl, HO, HB⟩ := hrel
      have d2 := (Below.cell HB.out (p := ⟨w.heap.size, 2, none⟩) z0).trans b2
      have zd : w.heap.size < wr.heap.size := World.block_lt_of_cell? wr _ d2
      have hsz := HB.out.size
      by_cases hlt : k < l.length
      · obtain ⟨b, off, rfl, hb, hcell⟩ := (HR2.out.bl HB.out).2 (by omega)
        obtain ⟨k0, k1, k2, k3, k4, k5⟩ := hcell k hlt
        have hltz : (k : Int) < (l.length : Int) := by omega
        have hkz : (0 : Int) ≤ (k : Int) := by omega
        have hsn := bet_snoc peer l k hlt
        have hlen : ((l.take k).filter (agreed peer)).length ≤ 512 := Nat.le_trans (List.length_filter_le _ _) (by rw [List.length_take]; omega)
        clear hcell
        generalize nth l k = x at *
        obtain ⟨x0, x1, x2, x3, x4, x5⟩ := x
        dsimp only at *
        have hag : agreed peer ⟨x0, x1, x2, x3, x4, x5⟩ = (x2 == 2 && x4 == peer) := rfl
        rw [hag] at hsn
        cases h2 : (x2 == 2) with
        | false =>
          rw [h2] at hsn
          have HSn := Hd.mk hsn
          clear hsn hag
          go_wp2
          go_roundg (l.length - (k + 1))
          case measure => omega
          case rel => exact ⟨k + 1, by omega, by omega, by go_num, ⟨by rw [HSn.out]; simpa using Ow.bl HO.out (by repeat (first | with_reducible exact Bl.refl _ | with_reducible apply Bl.alloc | with_reducible apply Bl.grow | with_reducible apply Bl.sd | with_reducible apply Bl.drewN | with_reducible apply Bl.drew))⟩, ⟨HB.out.trans (by repeat (first | with_reducible exact Bl.refl _ | with_reducible apply Bl.alloc | with_reducible apply Bl.grow | with_reducible apply Bl.sd | with_reducible apply Bl.drewN | with_reducible apply Bl.drew))⟩⟩
        | true =>
          cases h4 : (x4 == peer) with
          | false =>
            rw [h2, h4] at hsn
            have HSn := Hd.mk hsn
            clear hsn hag
            go_wp2
            go_roundg (l.length - (k + 1))
            case measure => omega
            case rel => exact ⟨k + 1, by omega, by omega, by go_num, ⟨by rw [HSn.out]; simpa using Ow.bl HO.out (by repeat (first | with_reducible exact Bl.refl _ | with_reducible apply Bl.alloc | with_reducible apply Bl.grow | with_reducible apply Bl.sd | with_reducible apply Bl.drewN | with_reducible apply Bl.drew))⟩, ⟨HB.out.trans (by repeat (first | with_reducible exact Bl.refl _ | with_reducible apply Bl.alloc | with_reducible apply Bl.grow | with_reducible apply Bl.sd | with_reducible apply Bl.drewN | with_reducible apply Bl.drew))⟩⟩
          | true =>
            rw [h2, h4] at hsn
            have HSn := Hd.mk hsn
            clear hsn hag
            go_wp2_with (at_builtin; refine wpList_append_own_at _ rfl _ _ 22 rfl W.heap.size 43 i0 _ 6 48 Try.underlying22 hi hz0 hz1 hz2 rfl (by decide) _ _ _ rfl (own_below HO.out (by repeat (first | with_reducible exact Bl.refl _ | with_reducible apply Bl.alloc | with_reducible apply Bl.grow | with_reducible apply Bl.sd | with_reducible apply Bl.drewN | with_reducible apply Bl.drew))) ⟨wr.heap.size, 0, none⟩ 1 1 [.int .i64 x0, .int .i64 x1, .int .i64 x2, .bool x3, .int .i64 x4, .int .i64 x5] rfl rfl (news_alloc _ _ _ _ rfl) (by simp [Value.oneCell']) (by simp only [maxLen]; omega) (by omega) (by simp [go_sem]; omega) ?_)
            intro v1 w1 hown1 hgr1 _ _
            have HO1 := Hd.mk hown1
            have HG1 := Hd.mk (Bl.grown (HB.out.alloc _) hgr1 (fun q hq => (World.ownsRow.lt HO.out q hq).1))
            clear hown1 hgr1
            go_wp2
            go_roundg (l.length - (k + 1))
            case measure => omega
            case rel =>
              refine ⟨k + 1, by omega, by omega, by go_num, ⟨?_⟩, ⟨HG1.out.trans (by repeat (first | with_reducible exact Bl.refl _ | with_reducible apply Bl.alloc | with_reducible apply Bl.grow | with_reducible apply Bl.sd | with_reducible apply Bl.drewN | with_reducible apply Bl.drew))⟩⟩
              have h := HO1.out
              rw [HSn.out]
              unfold Ow
              rw [List.length_append, tcsC_append]
              exact h
      · obtain rfl : k = l.length := by omega
        have hltz : ¬ ((l.length : Int) < (l.length : Int)) := by omega
        have HO' := HO.out
        rw [List.take_length, HFin.out] at HO'
        have HO2 := Hd.mk HO'
        clear HO HO'
        go_wp2
        go_ret
        exact ⟨_, rfl, Ow.lower (Ow.bl HO2.out (by repeat (first | with_reducible exact Bl.refl _ | with_reducible apply Bl.alloc | with_reducible apply Bl.grow | with_reducible apply Bl.sd | with_reducible apply Bl.drewN | with_reducible apply Bl.drew))) hws, HB0.out.trans (HB.out.trans (by repeat (first | with_reducible exact Bl.refl _ | with_reducible apply Bl.alloc | with_reducible apply Bl.grow | with_reducible apply Bl.sd | with_reducible apply Bl.drewN | with_reducible apply Bl.drew)))⟩
  · have hs : betS nd len l peer = [] := by unfold betS; rw [if_pos h1]
    rw [hs]
    have h2 : (checkT nd len l != 0) = true := by simp [h1]
    generalize checkT nd len l = q at *
    clear hr hs h1
    go_enter Try.func29, Try.ntmps29
    go_wp2_with (first | (go_at_call 14; (with_reducible refine (hC _ (by repeat (first | exact Gr.refl _ | with_reducible apply Gr.alloc | with_reducible apply Gr.grow | with_reducible apply Gr.drewN | with_reducible apply Gr.drew))).mono ?_); rintro e w' ⟨rfl, hg⟩; obtain ⟨n, os, rfl⟩ := hg.out; clear hg))
    go_ret
    exact ⟨_, rfl, Ow.nil _ _, (by repeat (first | exact Bl.refl _ | with_reducible apply Bl.alloc | with_reducible apply Bl.grow | with_reducible apply Bl.sd | with_reducible apply Bl.drewN | with_reducible apply Bl.drew))⟩
end Go.Proofs.Ytcknakbjiklklaa.F
