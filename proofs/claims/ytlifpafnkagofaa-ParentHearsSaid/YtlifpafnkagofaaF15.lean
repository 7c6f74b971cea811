import Derived.Test.YtlifpafnkagofaaF14
import Derived.Test.YtlifpafnkagofaaF4
import Derived.Test.YtlifpafnkagofaaF7
namespace Go.Proofs.Ytlifpafnkagofaa.F
open Go.RowKit Go.Sort Go.Proofs.Ytlifpafnkagofaa.B Go.Proofs.Ytlifpafnkagofaa.S
set_option linter.unusedVariables false
set_option linter.unusedSimpArgs false
set_option maxHeartbeats 4000000 in
set_option maxRecDepth 100000 in
theorem qBest (A : Option Addr) (c : Nat) (l : List Nb) (a0 a1 a2 a3 a4 a5 : Int) (w : World) (hr : Rd w A l) (hc : l.length ≤ c) :
    Calls Try.prog 14 #[.slice A l.length c, .agg #[.int .i64 a0, .int .i64 a1, .int .i64 a2, .int .i64 a3, .int .i64 a4, .int .i64 a5]] w fun e w' =>
      e = .returned (.tuple #[.int .i64 (bestQ ⟨a0, a1, a2, a3, a4, a5⟩ l).1, .bool (bestQ ⟨a0, a1, a2, a3, a4, a5⟩ l).2]) ∧ Gr w w' := by
  have hm := mixed
  have HC : ∀ W, Gr w W → _ := fun W h => qcheck A c l W (hr.gr h) hc
  have hres : bestQ ⟨a0, a1, a2, a3, a4, a5⟩ l = if checkL l = 0 then ((pickL (linksF ⟨a0, a1, a2, a3, a4, a5⟩ 0 l)).1.ix, (pickL (linksF ⟨a0, a1, a2, a3, a4, a5⟩ 0 l)).2) else (0, false) := rfl
  generalize bestQ ⟨a0, a1, a2, a3, a4, a5⟩ l = res at *
  by_cases h1 : checkL l = 0
  case neg =>
    rw [if_neg h1] at hres
    have HR := Hd.mk hres
    clear hres hr
    generalize checkL l = q1 at *
    go_enter Try.func14, Try.ntmps14
    go_wp2_with (first | (go_at_call 28; (with_reducible refine (HC _ (by repeat (first | exact Gr.refl _ | with_reducible apply Gr.alloc | with_reducible apply Gr.grow | with_reducible apply Gr.drewN | with_reducible apply Gr.drew))).mono ?_); rintro e w' ⟨rfl, hg⟩; obtain ⟨n, os, rfl⟩ := hg.out; clear hg))
    refine ⟨rfl, _, by simp [results, Try.results14, go_sem]; (repeat' first | rfl | apply And.intro), ret_ib HR.out, (by repeat (first | exact Gr.refl _ | with_reducible apply Gr.alloc | with_reducible apply Gr.grow | with_reducible apply Gr.drewN | with_reducible apply Gr.drew))⟩
  case pos =>
    rw [if_pos h1] at hres
    obtain ⟨h32, hok, hso⟩ := checkL_ok h1
    have HR := Hd.mk hr
    have HK := Hd.mk hok
    have HS := Hd.mk hso
    have HRes := Hd.mk hres
    rw [h1] at HC
    clear hres hr hok hso h1
    go_enter Try.func14, Try.ntmps14
    go_wp2_with (first | (go_at_call 28; (with_reducible refine (HC _ (by repeat (first | exact Gr.refl _ | with_reducible apply Gr.alloc | with_reducible apply Gr.grow | with_reducible apply Gr.drewN | with_reducible apply Gr.drew))).mono ?_); rintro e w' ⟨rfl, hg⟩; obtain ⟨n, os, rfl⟩ := hg.out; clear hg))
    go_loopg [6, 7, 8] l.length (fun gg s6 s7 s8 wr => ∃ (k : Nat) (acc : List Lk) (bi : Int), k ≤ l.length ∧ l.length - k ≤ gg ∧ s7 = .int .i64 k ∧ s6 = .int .i64 bi ∧
      Hd (linksF ⟨a0, a1, a2, a3, a4, a5⟩ 0 l = acc ++ linksF ⟨a0, a1, a2, a3, a4, a5⟩ k (l.drop k)) ∧
      Hd ((bi = -1 ∧ pickL acc = (zL, false)) ∨ (∃ i : Nat, i < k ∧ bi = (i : Int) ∧ pickL acc = (mkL (nth l i) i, true))) ∧
      Hd (Gr (w.alloc (.cells #[.int .i64 a0, .int .i64 a1, .int .i64 a2, .int .i64 a3, .int .i64 a4, .int .i64 a5] 24)) wr))
    case atStart => exact ⟨0, [], -1, Nat.zero_le _, by omega, rfl, rfl, ⟨rfl⟩, ⟨.inl ⟨rfl, rfl⟩⟩, ⟨(by repeat (first | exact Gr.refl _ | with_reducible apply Gr.alloc | with_reducible apply Gr.grow | with_reducible apply Gr.drewN | with_reducible apply Gr.drew))⟩⟩
    case round =>
      obtain ⟨k, acc, bi, hk, hg, rfl, rfl, HA, HI, HW⟩ := hrel
      obtain ⟨n0, os0, rfl⟩ := HW.out.out
      by_cases hlt : k < l.length
      · obtain ⟨b, off, rfl, hb, hcell⟩ := HR.out.2 (by omega)
        have HCell := Hd.mk hcell
        obtain ⟨k0, k1, k2, k3, k4, k5⟩ := hcell k hlt
        have hltz : (k : Int) < (l.length : Int) := by omega
        have hkz : (0 : Int) ≤ (k : Int) := by omega
        have hyes := linksF_yes (r := ⟨a0, a1, a2, a3, a4, a5⟩) hlt
        have hno := linksF_no (r := ⟨a0, a1, a2, a3, a4, a5⟩) hlt
        have hok := (okN_iff (nth l k)).1 (HK.out k hlt)
        clear hcell
        generalize hx : nth l k = x at *
        obtain ⟨x0, x1, x2, x3, ⟨x4, x5⟩⟩ := x
        dsimp only at *
        have HX := Hd.mk hx
        clear hx
        have hxp := xpath x0 x1 x2 x3 x4 x5 (by omega) (by omega) (by omega)
        have hfe := xfeasible a0 a1 a2 a3 a4 a5 x1 x2
        have hcand : candB ⟨a0, a1, a2, a3, a4, a5⟩ ⟨x0, x1, x2, x3, ⟨x4, x5⟩⟩ = (decide (x0 ≠ a0) && feasR ⟨a0, a1, a2, a3, a4, a5⟩ x1 x2 && decide (x2 + costS ⟨x4, x5⟩ < 65535)) := by unfold candB; dsimp only
        generalize feasR ⟨a0, a1, a2, a3, a4, a5⟩ x1 x2 = f at hfe hcand
        generalize hco : costS ⟨x4, x5⟩ = co at *
        have HCo := Hd.mk hco
        have HYes := Hd.mk hyes
        have HNo := Hd.mk hno
        have HOk := Hd.mk hok
        have HC := Hd.mk hcand
        clear hyes hno hok hcand hco
        by_cases c1 : x0 = a0
        · have c1b : (x0 == a0) = true := by simp [c1]
          have C1 := Hd.mk c1
          clear c1
          go_wp2
          go_roundg (l.length - (k + 1))
          case measure => omega
          case rel => exact ⟨k + 1, acc, bi, by omega, by omega, by go_num, rfl, ⟨by rw [HA.out, HNo.out (by rw [HC.out, C1.out]; simp)]⟩, ⟨by rcases HI.out with h | ⟨i, h1, h2⟩; exact .inl h; exact .inr ⟨i, by omega, h2⟩⟩, ⟨(by repeat (first | exact Gr.refl _ | with_reducible apply Gr.alloc | with_reducible apply Gr.grow | with_reducible apply Gr.drewN | with_reducible apply Gr.drew))⟩⟩
        · have c1b : (x0 == a0) = false := by simp [c1]
          have C1 := Hd.mk c1
          clear c1
          cases f with
          | false =>
            go_wp2_with (first | (go_at_call 40; (with_reducible refine (hfe _).mono ?_); rintro e w' ⟨rfl, hg⟩; obtain ⟨n, os, rfl⟩ := hg.out; clear hg))
            go_roundg (l.length - (k + 1))
            case measure => omega
            case rel => exact ⟨k + 1, acc, bi, by omega, by omega, by go_num, rfl, ⟨by rw [HA.out, HNo.out (by rw [HC.out]; simp)]⟩, ⟨by rcases HI.out with h | ⟨i, h1, h2⟩; exact .inl h; exact .inr ⟨i, by omega, h2⟩⟩, ⟨(by repeat (first | exact Gr.refl _ | with_reducible apply Gr.alloc | with_reducible apply Gr.grow | with_reducible apply Gr.drewN | with_reducible apply Gr.drew))⟩⟩
          | true =>
            by_cases c3 : x2 + co < 65535
            · rcases HI.out with ⟨rfl, hp⟩ | ⟨i, hi, rfl, hp⟩
              · have HP := Hd.mk hp
                clear hp
                go_wp2_with (first | (go_at_call 40; (with_reducible refine (hfe _).mono ?_); rintro e w' ⟨rfl, hg⟩; obtain ⟨n, os, rfl⟩ := hg.out; clear hg) | (go_at_call 41; (with_reducible refine (hxp _).mono ?_); rintro e w' ⟨rfl, hg⟩; obtain ⟨n, os, rfl⟩ := hg.out; clear hg))
                go_quiet (fail)
                go_wp2
                go_roundg (l.length - (k + 1))
                case measure => omega
                case rel => exact ⟨k + 1, acc ++ [mkL ⟨x0, x1, x2, x3, ⟨x4, x5⟩⟩ k], (k : Int), by omega, by omega, by go_num, rfl, ⟨by rw [HA.out, HYes.out (by rw [HC.out]; simp [c3, C1.out])]; simp⟩, ⟨.inr ⟨k, by omega, rfl, by rw [pick_snoc, HP.out, HX.out]⟩⟩, ⟨(by repeat (first | exact Gr.refl _ | with_reducible apply Gr.alloc | with_reducible apply Gr.grow | with_reducible apply Gr.drewN | with_reducible apply Gr.drew))⟩⟩
              · have HP := Hd.mk hp
                clear hp
                have hil : i < l.length := by omega
                have hi0 : decide ((i : Int) < 0) = false := by simp
                have hi0' : (0 : Int) ≤ (i : Int) := by omega
                have hil' : (i : Int) < (l.length : Int) := by omega
                obtain ⟨j0, j1, j2, j3, j4, j5⟩ := HCell.out i hil
                have hoi := (okN_iff (nth l i)).1 (HK.out i hil)
                have hlater := HS.out i k hi hlt
                rw [HX.out] at hlater
                generalize hy : nth l i = y at *
                obtain ⟨y0, y1, y2, y3, ⟨y4, y5⟩⟩ := y
                dsimp only at *
                have HY := Hd.mk hy
                clear hy
                have hyp := xpath y0 y1 y2 y3 y4 y5 (by omega) (by omega) (by omega)
                have hbet := bet_later (x := mkL ⟨x0, x1, x2, x3, ⟨x4, x5⟩⟩ k) (m := mkL ⟨y0, y1, y2, y3, ⟨y4, y5⟩⟩ i) hlater
                unfold mkL at hbet
                dsimp only at hbet
                rw [HCo.out] at hbet
                generalize hci : costS ⟨y4, y5⟩ = ci at *
                have HCi := Hd.mk hci
                have HBet := Hd.mk hbet
                have HOi := Hd.mk hoi
                clear hci hbet hoi hlater
                go_wp2_with (first | (go_at_call 40; (with_reducible refine (hfe _).mono ?_); rintro e w' ⟨rfl, hg⟩; obtain ⟨n, os, rfl⟩ := hg.out; clear hg) | (go_at_call 41; (with_reducible refine (hxp _).mono ?_); rintro e w' ⟨rfl, hg⟩; obtain ⟨n, os, rfl⟩ := hg.out; clear hg))
                generalize hW : Sort.grow _ _ = W
                have HWe := Hd.mk hW
                clear hW
                have g0 : W.cell? ⟨w.heap.size + (1 + os0.size), 0, none⟩ = some (.int .i64 x0) := by rw [← HWe.out]; go_simp
                have g1 : W.cell? ⟨w.heap.size + (1 + os0.size), 1, none⟩ = some (.int .i64 x1) := by rw [← HWe.out]; go_simp
                have g2 : W.cell? ⟨w.heap.size + (1 + os0.size), 2, none⟩ = some (.int .i64 x2) := by rw [← HWe.out]; go_simp
                have g3 : W.cell? ⟨w.heap.size + (1 + os0.size), 3, none⟩ = some (.int .i64 x3) := by rw [← HWe.out]; go_simp
                have g4 : W.cell? ⟨w.heap.size + (1 + os0.size), 4, none⟩ = some (.int .i64 x4) := by rw [← HWe.out]; go_simp
                have g5 : W.cell? ⟨w.heap.size + (1 + os0.size), 5, none⟩ = some (.int .i64 x5) := by rw [← HWe.out]; go_simp
                have h0 : W.cell? ⟨b, off + i * 6, none⟩ = some (.int .i64 y0) := by rw [← HWe.out]; go_simp
                have h1 : W.cell? ⟨b, off + i * 6 + 1, none⟩ = some (.int .i64 y1) := by rw [← HWe.out]; go_simp
                have h2 : W.cell? ⟨b, off + i * 6 + 2, none⟩ = some (.int .i64 y2) := by rw [← HWe.out]; go_simp
                have h3 : W.cell? ⟨b, off + i * 6 + 3, none⟩ = some (.int .i64 y3) := by rw [← HWe.out]; go_simp
                have h4 : W.cell? ⟨b, off + i * 6 + 4, none⟩ = some (.int .i64 y4) := by rw [← HWe.out]; go_simp
                have h5 : W.cell? ⟨b, off + i * 6 + 5, none⟩ = some (.int .i64 y5) := by rw [← HWe.out]; go_simp
                have hbw : b < W.heap.size := by rw [← HWe.out]; simp; omega
                have hxw : w.heap.size + (1 + os0.size) < W.heap.size := by rw [← HWe.out]; simp; omega
                clear j0 j1 j2 j3 j4 j5 k0 k1 k2 k3 k4 k5
                by_cases d1 : y1 < x1
                · (refine wp_region_quiet_grown (by assumption) (by kernel_rfl) ?_; (repeat (go_big_quiet_step (first | (go_at_call 41; exact quiet_grown rfl (hxp _)) | (go_at_call 41; exact quiet_grown rfl (hyp _))))); refine wpQuiet_nil ?_; intro _ hw'; obtain ⟨⟨nq, osq⟩, hw''⟩ := hw'; subst hw'')
                  clear g0 g1 g2 g3 g4 g5 h0 h1 h2 h3 h4 h5 hbw hxw
                  obtain rfl := HWe.out
                  clear HWe
                  go_wp2
                  go_roundg (l.length - (k + 1))
                  case measure => omega
                  case rel => exact ⟨k + 1, acc ++ [mkL ⟨x0, x1, x2, x3, ⟨x4, x5⟩⟩ k], (k : Int), by omega, by omega, by go_num, rfl, ⟨by rw [HA.out, HYes.out (by rw [HC.out]; simp [c3, C1.out])]; simp⟩, ⟨.inr ⟨k, by omega, rfl, by rw [pick_snoc, HP.out, HX.out]; show (if betS _ _ < 0 then _ else _, true) = _; rw [if_pos]; have := HBet.out.2 (.inl d1); unfold mkL; rw [HCo.out, HCi.out]; exact this⟩⟩, ⟨(by repeat (first | exact Gr.refl _ | with_reducible apply Gr.alloc | with_reducible apply Gr.grow | with_reducible apply Gr.drewN | with_reducible apply Gr.drew))⟩⟩
                · have d1n : decide (y1 < x1) = false := by simp; omega
                  by_cases d2 : x1 = y1
                  · have d2b : (x1 == y1) = true := by simp [d2]
                    have D2 := Hd.mk d2
                    clear d2
                    by_cases d3 : x2 + co < y2 + ci
                    · (refine wp_region_quiet_grown (by assumption) (by kernel_rfl) ?_; (repeat (go_big_quiet_step (first | (go_at_call 41; exact quiet_grown rfl (hxp _)) | (go_at_call 41; exact quiet_grown rfl (hyp _))))); refine wpQuiet_nil ?_; intro _ hw'; obtain ⟨⟨nq, osq⟩, hw''⟩ := hw'; subst hw'')
                      clear g0 g1 g2 g3 g4 g5 h0 h1 h2 h3 h4 h5 hbw hxw
                      obtain rfl := HWe.out
                      clear HWe
                      go_wp2
                      go_roundg (l.length - (k + 1))
                      case measure => omega
                      case rel => exact ⟨k + 1, acc ++ [mkL ⟨x0, x1, x2, x3, ⟨x4, x5⟩⟩ k], (k : Int), by omega, by omega, by go_num, rfl, ⟨by rw [HA.out, HYes.out (by rw [HC.out]; simp [c3, C1.out])]; simp⟩, ⟨.inr ⟨k, by omega, rfl, by rw [pick_snoc, HP.out, HX.out]; show (if betS _ _ < 0 then _ else _, true) = _; rw [if_pos]; have := HBet.out.2 (.inr ⟨D2.out, d3⟩); unfold mkL; rw [HCo.out, HCi.out]; exact this⟩⟩, ⟨(by repeat (first | exact Gr.refl _ | with_reducible apply Gr.alloc | with_reducible apply Gr.grow | with_reducible apply Gr.drewN | with_reducible apply Gr.drew))⟩⟩
                    · (refine wp_region_quiet_grown (by assumption) (by kernel_rfl) ?_; (repeat (go_big_quiet_step (first | (go_at_call 41; exact quiet_grown rfl (hxp _)) | (go_at_call 41; exact quiet_grown rfl (hyp _))))); refine wpQuiet_nil ?_; intro _ hw'; obtain ⟨⟨nq, osq⟩, hw''⟩ := hw'; subst hw'')
                      clear g0 g1 g2 g3 g4 g5 h0 h1 h2 h3 h4 h5 hbw hxw
                      obtain rfl := HWe.out
                      clear HWe
                      go_wp2
                      go_roundg (l.length - (k + 1))
                      case measure => omega
                      case rel => exact ⟨k + 1, acc ++ [mkL ⟨x0, x1, x2, x3, ⟨x4, x5⟩⟩ k], (i : Int), by omega, by omega, by go_num, rfl, ⟨by rw [HA.out, HYes.out (by rw [HC.out]; simp [c3, C1.out])]; simp⟩, ⟨.inr ⟨i, by omega, rfl, by rw [pick_snoc, HP.out, HY.out]; show (if betS _ _ < 0 then _ else _, true) = _; rw [if_neg]; intro h; unfold mkL at h; rw [HCo.out, HCi.out] at h; have h3 := HBet.out.1 h; have h4 := D2.out; omega⟩⟩, ⟨(by repeat (first | exact Gr.refl _ | with_reducible apply Gr.alloc | with_reducible apply Gr.grow | with_reducible apply Gr.drewN | with_reducible apply Gr.drew))⟩⟩
                  · have d2b : (x1 == y1) = false := by simp [d2]
                    (refine wp_region_quiet_grown (by assumption) (by kernel_rfl) ?_; (repeat (go_big_quiet_step (first | (go_at_call 41; exact quiet_grown rfl (hxp _)) | (go_at_call 41; exact quiet_grown rfl (hyp _))))); refine wpQuiet_nil ?_; intro _ hw'; obtain ⟨⟨nq, osq⟩, hw''⟩ := hw'; subst hw'')
                    clear g0 g1 g2 g3 g4 g5 h0 h1 h2 h3 h4 h5 hbw hxw
                    obtain rfl := HWe.out
                    clear HWe
                    go_wp2
                    go_roundg (l.length - (k + 1))
                    case measure => omega
                    case rel => exact ⟨k + 1, acc ++ [mkL ⟨x0, x1, x2, x3, ⟨x4, x5⟩⟩ k], (i : Int), by omega, by omega, by go_num, rfl, ⟨by rw [HA.out, HYes.out (by rw [HC.out]; simp [c3, C1.out])]; simp⟩, ⟨.inr ⟨i, by omega, rfl, by rw [pick_snoc, HP.out, HY.out]; show (if betS _ _ < 0 then _ else _, true) = _; rw [if_neg]; intro h; unfold mkL at h; rw [HCo.out, HCi.out] at h; have h3 := HBet.out.1 h; omega⟩⟩, ⟨(by repeat (first | exact Gr.refl _ | with_reducible apply Gr.alloc | with_reducible apply Gr.grow | with_reducible apply Gr.drewN | with_reducible apply Gr.drew))⟩⟩
            · go_wp2_with (first | (go_at_call 40; (with_reducible refine (hfe _).mono ?_); rintro e w' ⟨rfl, hg⟩; obtain ⟨n, os, rfl⟩ := hg.out; clear hg) | (go_at_call 41; (with_reducible refine (hxp _).mono ?_); rintro e w' ⟨rfl, hg⟩; obtain ⟨n, os, rfl⟩ := hg.out; clear hg))
              go_roundg (l.length - (k + 1))
              case measure => omega
              case rel => exact ⟨k + 1, acc, bi, by omega, by omega, by go_num, rfl, ⟨by rw [HA.out, HNo.out (by rw [HC.out]; simp [c3])]⟩, ⟨by rcases HI.out with h | ⟨i, h1, h2⟩; exact .inl h; exact .inr ⟨i, by omega, h2⟩⟩, ⟨(by repeat (first | exact Gr.refl _ | with_reducible apply Gr.alloc | with_reducible apply Gr.grow | with_reducible apply Gr.drewN | with_reducible apply Gr.drew))⟩⟩
      · obtain rfl : k = l.length := by omega
        have hltz : ¬ ((l.length : Int) < (l.length : Int)) := by omega
        have hacc : linksF ⟨a0, a1, a2, a3, a4, a5⟩ 0 l = acc := by rw [HA.out]; simp [linksF]
        have HAcc := Hd.mk hacc
        clear hacc
        rcases HI.out with ⟨rfl, hp⟩ | ⟨i, hi, rfl, hp⟩
        · have HP := Hd.mk hp
          clear hp
          go_wp2
          refine ⟨rfl, _, by simp [results, Try.results14, go_sem]; (repeat' first | rfl | apply And.intro), ret_ib ?_, (by repeat (first | exact Gr.refl _ | with_reducible apply Gr.alloc | with_reducible apply Gr.grow | with_reducible apply Gr.drewN | with_reducible apply Gr.drew))⟩
          rw [HRes.out, HAcc.out, HP.out]; rfl
        · have HP := Hd.mk hp
          have hi0 : ¬ ((i : Int) < 0) := by omega
          clear hp
          go_wp2
          refine ⟨rfl, _, by simp [results, Try.results14, go_sem]; (repeat' first | rfl | apply And.intro), ret_ib ?_, (by repeat (first | exact Gr.refl _ | with_reducible apply Gr.alloc | with_reducible apply Gr.grow | with_reducible apply Gr.drewN | with_reducible apply Gr.drew))⟩
          rw [HRes.out, HAcc.out, HP.out]; rfl
end Go.Proofs.Ytlifpafnkagofaa.F
