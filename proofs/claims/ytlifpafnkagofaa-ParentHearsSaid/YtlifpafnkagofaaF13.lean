import Derived.Test.YtlifpafnkagofaaB2
import Derived.Test.YtlifpafnkagofaaF12b
import Derived.Test.YtlifpafnkagofaaF9
import Derived.Test.YtlifpafnkagofaaF2
import Derived.Test.YtlifpafnkagofaaS5
namespace Go.Proofs.Ytlifpafnkagofaa.F
open Go.RowKit Go.Sort Go.Proofs.Ytlifpafnkagofaa.B Go.Proofs.Ytlifpafnkagofaa.S
set_option linter.unusedVariables false
set_option linter.unusedSimpArgs false
set_option maxHeartbeats 4000000 in
set_option maxRecDepth 100000 in
theorem pbest (A : Option Addr) (c : Nat) (l : List Nb) (a0 a1 a2 a3 a4 a5 : Int) (w : World) (hr : Rd w A l) (hc : l.length ≤ c) (h32 : l.length ≤ 32) (hk : ∀ k, k < l.length → okN (nth l k) = true) :
    Calls Try.prog 39 #[.slice A l.length c, .agg #[.int .i64 a0, .int .i64 a1, .int .i64 a2, .int .i64 a3, .int .i64 a4, .int .i64 a5]] w fun e w' =>
      e = .returned (.tuple #[vL (bestS ⟨a0, a1, a2, a3, a4, a5⟩ l).1, .bool (bestS ⟨a0, a1, a2, a3, a4, a5⟩ l).2]) ∧ Bl w w' := by
  have hm := mixed
  obtain ⟨i0, hi, hz0, hz1, hz2⟩ := info_of info61
  have HR := Hd.mk hr
  have HK := Hd.mk hk
  clear hr hk
  generalize hres : bestS ⟨a0, a1, a2, a3, a4, a5⟩ l = res
  have HRes := Hd.mk hres
  clear hres
  go_enter Try.func39, Try.ntmps39
  go_wp2
  go_loopg [6, 7, 8, 9, 12] l.length (fun gg s6 s7 s8 s9 s12 wr => ∃ (k : Nat) (acc : List Lk), k ≤ l.length ∧ l.length - k ≤ gg ∧ s12 = .int .i64 k ∧
    Hd (acc.length ≤ k ∧ linksF ⟨a0, a1, a2, a3, a4, a5⟩ 0 l = acc ++ linksF ⟨a0, a1, a2, a3, a4, a5⟩ k (l.drop k)) ∧
    Hd (wr.ownsRow (w.heap.size + 2) 61 8 s6 acc.length (lksC acc)) ∧
    Hd (Bl ((w.alloc (.cells #[.int .i64 a0, .int .i64 a1, .int .i64 a2, .int .i64 a3, .int .i64 a4, .int .i64 a5] 24)).alloc (.cells #[.int .i64 0, .int .i64 0, .int .i64 0, .int .i64 0, .int .i64 0, .int .i64 0, .int .i64 0, .int .i64 0] 61)) wr))
  case atStart => exact ⟨0, [], Nat.zero_le _, by omega, rfl, ⟨Nat.le_refl _, rfl⟩, ⟨World.ownsRow_nil _ _ _ _⟩, ⟨Bl.refl _⟩⟩
  case round =>
    obtain ⟨k, acc, hk, hg, rfl, HA, HO, HB⟩ := hrel
    by_cases hlt : k < l.length
    · obtain ⟨b, off, rfl, hb, hcell⟩ := HR.out.2 (by omega)
      obtain ⟨d, os, rfl⟩ := HB.out.out
      obtain ⟨k0, k1, k2, k3, k4, k5⟩ := hcell k hlt
      have hltz : (k : Int) < (l.length : Int) := by omega
      have hkz : (0 : Int) ≤ (k : Int) := by omega
      have hok := (okN_iff (nth l k)).1 (HK.out k hlt)
      have hyes := linksF_yes (r := ⟨a0, a1, a2, a3, a4, a5⟩) hlt
      have hno := linksF_no (r := ⟨a0, a1, a2, a3, a4, a5⟩) hlt
      generalize hx : nth l k = x at *
      obtain ⟨x0, x1, x2, x3, ⟨x4, x5⟩⟩ := x
      dsimp only at *
      clear hx
      have hcost := pcost x4 x5 (by omega)
      have hcb := costS_bd ⟨x4, x5⟩
      have HYes := Hd.mk hyes
      have HNo := Hd.mk hno
      clear hyes hno
      generalize hco : costS ⟨x4, x5⟩ = co at *
      have HCo := Hd.mk hco
      clear hco
      have HOk := Hd.mk hok
      clear hok
      obtain ⟨hcb0, hcb1⟩ := hcb
      have hfe := rfeasible a0 a1 a2 a3 a4 a5 x1 x2
      have hcand : candB ⟨a0, a1, a2, a3, a4, a5⟩ ⟨x0, x1, x2, x3, ⟨x4, x5⟩⟩ = (decide (x0 ≠ a0) && feasR ⟨a0, a1, a2, a3, a4, a5⟩ x1 x2 && decide (x2 + co < 65535)) := by unfold candB; dsimp only; rw [HCo.out]
      generalize hfq : feasR ⟨a0, a1, a2, a3, a4, a5⟩ x1 x2 = f at hfe hcand
      clear hfq
      have HC := Hd.mk hcand
      clear hcand
      have hlp := lpath x0 x1 x2 x3 x4 x5 k co (by have := HOk.out; omega) (by have := HOk.out; omega) hcb0 hcb1
      have hx2 : 0 ≤ x2 := by have := HOk.out; omega
      have hx3 : x2 ≤ 65534 := by have := HOk.out; omega
      by_cases c1 : x0 = a0
      · have c1b : (x0 != a0) = false := by simp [c1]
        have C1 := Hd.mk c1
        clear c1
        go_wp2
        go_region_held3 (fun w' => w'.cell? ⟨w.heap.size + (2 + os.size), 0, none⟩ = some (.int .i64 x0) ∧ w'.cell? ⟨w.heap.size + (2 + os.size), 1, none⟩ = some (.int .i64 x1) ∧ w'.cell? ⟨w.heap.size + (2 + os.size), 2, none⟩ = some (.int .i64 x2) ∧ w'.cell? ⟨w.heap.size + (2 + os.size), 3, none⟩ = some (.int .i64 x3) ∧ w'.cell? ⟨w.heap.size + (2 + os.size), 4, none⟩ = some (.int .i64 x4) ∧ w'.cell? ⟨w.heap.size + (2 + os.size), 5, none⟩ = some (.int .i64 x5)) ((go_simp; done)) (first | (go_at_call 20; (with_reducible refine (hcost _).mono ?_); rintro e w' ⟨rfl, hg⟩; obtain ⟨n, os, rfl⟩ := hg.out; clear hg))
        all_goals
          go_wp2
          go_roundg (l.length - (k + 1))
          case measure => omega
          case rel => exact ⟨k + 1, acc, by omega, by omega, by go_num, ⟨by have := HA.out.1; omega, by rw [HA.out.2, HNo.out (by rw [HC.out, C1.out]; simp)]⟩, ⟨own_below HO.out (by repeat (first | exact Bl.refl _ | with_reducible apply Bl.alloc | with_reducible apply Bl.grow | with_reducible apply Bl.sd | with_reducible apply Bl.drewN | with_reducible apply Bl.drew))⟩, ⟨(by repeat (first | exact Bl.refl _ | with_reducible apply Bl.alloc | with_reducible apply Bl.grow | with_reducible apply Bl.sd | with_reducible apply Bl.drewN | with_reducible apply Bl.drew))⟩⟩
      · have c1b : (x0 != a0) = true := by simp [c1]
        have C1 := Hd.mk c1
        clear c1
        cases f with
        | false =>
          go_wp2
          go_region_held3 (fun w' => w'.cell? ⟨w.heap.size + (2 + os.size), 0, none⟩ = some (.int .i64 x0) ∧ w'.cell? ⟨w.heap.size + (2 + os.size), 1, none⟩ = some (.int .i64 x1) ∧ w'.cell? ⟨w.heap.size + (2 + os.size), 2, none⟩ = some (.int .i64 x2) ∧ w'.cell? ⟨w.heap.size + (2 + os.size), 3, none⟩ = some (.int .i64 x3) ∧ w'.cell? ⟨w.heap.size + (2 + os.size), 4, none⟩ = some (.int .i64 x4) ∧ w'.cell? ⟨w.heap.size + (2 + os.size), 5, none⟩ = some (.int .i64 x5)) ((go_simp; done)) (first | (go_at_call 20; (with_reducible refine (hcost _).mono ?_); rintro e w' ⟨rfl, hg⟩; obtain ⟨n, os, rfl⟩ := hg.out; clear hg))
          all_goals
            go_wp2_with (first | (go_at_call 63; (with_reducible refine (hfe _).mono ?_); rintro e w' ⟨rfl, hg⟩; obtain ⟨n, os, rfl⟩ := hg.out; clear hg))
            go_roundg (l.length - (k + 1))
            case measure => omega
            case rel => exact ⟨k + 1, acc, by omega, by omega, by go_num, ⟨by have := HA.out.1; omega, by rw [HA.out.2, HNo.out (by rw [HC.out]; simp)]⟩, ⟨own_below HO.out (by repeat (first | exact Bl.refl _ | with_reducible apply Bl.alloc | with_reducible apply Bl.grow | with_reducible apply Bl.sd | with_reducible apply Bl.drewN | with_reducible apply Bl.drew))⟩, ⟨(by repeat (first | exact Bl.refl _ | with_reducible apply Bl.alloc | with_reducible apply Bl.grow | with_reducible apply Bl.sd | with_reducible apply Bl.drewN | with_reducible apply Bl.drew))⟩⟩
        | true =>
          by_cases c3 : x2 + co < 65535
          · go_wp2
            go_region_held3 (fun w' => w'.cell? ⟨w.heap.size + (2 + os.size), 0, none⟩ = some (.int .i64 x0) ∧ w'.cell? ⟨w.heap.size + (2 + os.size), 1, none⟩ = some (.int .i64 x1) ∧ w'.cell? ⟨w.heap.size + (2 + os.size), 2, none⟩ = some (.int .i64 x2) ∧ w'.cell? ⟨w.heap.size + (2 + os.size), 3, none⟩ = some (.int .i64 x3) ∧ w'.cell? ⟨w.heap.size + (2 + os.size), 4, none⟩ = some (.int .i64 x4) ∧ w'.cell? ⟨w.heap.size + (2 + os.size), 5, none⟩ = some (.int .i64 x5)) ((go_simp; done)) (first | (go_at_call 20; (with_reducible refine (hcost _).mono ?_); rintro e w' ⟨rfl, hg⟩; obtain ⟨n, os, rfl⟩ := hg.out; clear hg))
            all_goals
              go_wp2_with (first | (at_builtin; (refine wpList_append_own_at _ rfl _ _ 81 rfl (w.heap.size + 2) 61 i0 _ 8 64 Try.underlying81 hi hz0 hz1 hz2 rfl (by decide) _ acc.length (lksC acc) rfl (own_below HO.out (by repeat (first | exact Bl.refl _ | with_reducible apply Bl.alloc | with_reducible apply Bl.grow | with_reducible apply Bl.sd | with_reducible apply Bl.drewN | with_reducible apply Bl.drew))) _ _ _ [.int .i64 x0, .int .i64 x1, .int .i64 x2, .int .i64 x3, .int .i64 x4, .int .i64 x5, .int .i64 k, .int .i64 co] rfl rfl (news_alloc _ #[.int .i64 x0, .int .i64 x1, .int .i64 x2, .int .i64 x3, .int .i64 x4, .int .i64 x5, .int .i64 k, .int .i64 co] 61 _ (by simp [go_sem])) (by simp [Value.oneCell']) (by have := HA.out.1; simp only [maxLen]; omega) (by have := HA.out.1; omega) (by simp [go_sem] <;> omega) ?_); intro v1 w1 hown1 hgr1 _ _; have HOw := Hd.mk hown1; have HGr := Hd.mk hgr1; clear hown1 hgr1) | (go_at_call 63; (with_reducible refine (hfe _).mono ?_); rintro e w' ⟨rfl, hg⟩; obtain ⟨n, os, rfl⟩ := hg.out; clear hg) | (go_at_call 45; (with_reducible refine (hlp _).mono ?_); rintro e w' ⟨rfl, hg⟩; obtain ⟨n, os, rfl⟩ := hg.out; clear hg))
              go_roundg (l.length - (k + 1))
              case measure => omega
              case rel =>
                refine ⟨k + 1, acc ++ [mkL ⟨x0, x1, x2, x3, ⟨x4, x5⟩⟩ k], by omega, by omega, by go_num, ⟨by have := HA.out.1; simp; omega, by rw [HA.out.2, HYes.out (by rw [HC.out]; simp [c3, C1.out])]; simp⟩, ⟨?_⟩, ⟨Bl.grown (by repeat (first | exact Bl.refl _ | with_reducible apply Bl.alloc | with_reducible apply Bl.grow | with_reducible apply Bl.sd | with_reducible apply Bl.drewN | with_reducible apply Bl.drew)) HGr.out (fun q hq => by have := (World.ownsRow.lt HO.out q hq).1; simpa using this)⟩⟩
                have := HOw.out
                rw [show (acc ++ [mkL ⟨x0, x1, x2, x3, ⟨x4, x5⟩⟩ k]).length = acc.length + 1 by simp, show lksC (acc ++ [mkL ⟨x0, x1, x2, x3, ⟨x4, x5⟩⟩ k]) = lksC acc ++ [.int .i64 x0, .int .i64 x1, .int .i64 x2, .int .i64 x3, .int .i64 x4, .int .i64 x5, .int .i64 k, .int .i64 co] by simp [lksC, lkC, mkL, HCo.out]]
                exact this
          · go_wp2
            go_region_held3 (fun w' => w'.cell? ⟨w.heap.size + (2 + os.size), 0, none⟩ = some (.int .i64 x0) ∧ w'.cell? ⟨w.heap.size + (2 + os.size), 1, none⟩ = some (.int .i64 x1) ∧ w'.cell? ⟨w.heap.size + (2 + os.size), 2, none⟩ = some (.int .i64 x2) ∧ w'.cell? ⟨w.heap.size + (2 + os.size), 3, none⟩ = some (.int .i64 x3) ∧ w'.cell? ⟨w.heap.size + (2 + os.size), 4, none⟩ = some (.int .i64 x4) ∧ w'.cell? ⟨w.heap.size + (2 + os.size), 5, none⟩ = some (.int .i64 x5)) ((go_simp; done)) (first | (go_at_call 20; (with_reducible refine (hcost _).mono ?_); rintro e w' ⟨rfl, hg⟩; obtain ⟨n, os, rfl⟩ := hg.out; clear hg))
            all_goals
              go_wp2_with (first | (go_at_call 63; (with_reducible refine (hfe _).mono ?_); rintro e w' ⟨rfl, hg⟩; obtain ⟨n, os, rfl⟩ := hg.out; clear hg) | (go_at_call 45; (with_reducible refine (hlp _).mono ?_); rintro e w' ⟨rfl, hg⟩; obtain ⟨n, os, rfl⟩ := hg.out; clear hg))
              go_roundg (l.length - (k + 1))
              case measure => omega
              case rel => exact ⟨k + 1, acc, by omega, by omega, by go_num, ⟨by have := HA.out.1; omega, by rw [HA.out.2, HNo.out (by rw [HC.out]; simp [c3])]⟩, ⟨own_below HO.out (by repeat (first | exact Bl.refl _ | with_reducible apply Bl.alloc | with_reducible apply Bl.grow | with_reducible apply Bl.sd | with_reducible apply Bl.drewN | with_reducible apply Bl.drew))⟩, ⟨(by repeat (first | exact Bl.refl _ | with_reducible apply Bl.alloc | with_reducible apply Bl.grow | with_reducible apply Bl.sd | with_reducible apply Bl.drewN | with_reducible apply Bl.drew))⟩⟩
    · obtain rfl : k = l.length := by omega
      have hltz : ¬ ((l.length : Int) < (l.length : Int)) := by omega
      have hlk : linksF ⟨a0, a1, a2, a3, a4, a5⟩ 0 l = acc := by rw [HA.out.2]; simp [linksF]
      have hl9 := HA.out.1
      have hokk : ∀ j, j < acc.length → okK (nth acc j) := fun j hj => linksF_ok l 0 HK.out _ (by rw [hlk]; exact nth_mem acc j hj)
      have hbest : res = pickL acc := by rw [← HRes.out]; unfold bestS; rw [hlk]
      have HBest := Hd.mk hbest
      clear hbest hlk
      obtain ⟨d, os, rfl⟩ := HB.out.out
      cases acc with
      | nil =>
        obtain ⟨sa, sc, rfl⟩ := own_shape HO.out
        go_wp2
        refine ⟨rfl, _, by simp [results, Try.results39, go_sem]; (repeat' first | rfl | apply And.intro), ?_, (by repeat (first | exact Bl.refl _ | with_reducible apply Bl.alloc | with_reducible apply Bl.grow | with_reducible apply Bl.sd | with_reducible apply Bl.drewN | with_reducible apply Bl.drew))⟩
        rw [HBest.out]; rfl
      | cons x rest =>
        obtain ⟨sb, sc, rfl, hsc, hrd⟩ := RdL_of_own HO.out (by simp)
        have hmin := pmin (some ⟨sb, 0, none⟩) sc (x :: rest)
        have HRd := Hd.mk hrd
        have HOk := Hd.mk hokk
        clear hrd hokk
        generalize hm9 : minF (nth (x :: rest) 0) ((x :: rest).drop 1) = m at hmin
        have HM := Hd.mk hm9
        clear hm9
        obtain ⟨⟨m0, m1, m2, m3, ⟨m4, m5⟩⟩, m6, m7⟩ := m
        simp only [vL] at hmin
        have hlen : ¬ (((x :: rest).length : Int) = 0) := by simp; omega
        generalize hL : (x :: rest).length = L at *
        go_wp2_with (first | (go_at_call 64; (with_reducible refine (hmin _ HRd.out hsc (by omega) HOk.out).mono ?_); rintro e w' ⟨rfl, hg⟩; obtain ⟨n, os, rfl⟩ := hg.out; clear hg))
        refine ⟨rfl, _, by simp [results, Try.results39, go_sem]; (repeat' first | rfl | apply And.intro), ?_, (by repeat (first | exact Bl.refl _ | with_reducible apply Bl.alloc | with_reducible apply Bl.grow | with_reducible apply Bl.sd | with_reducible apply Bl.drewN | with_reducible apply Bl.drew))⟩
        rw [HBest.out, show pickL (x :: rest) = (minF (nth (x :: rest) 0) ((x :: rest).drop 1), true) from rfl, HM.out]
        rfl
end Go.Proofs.Ytlifpafnkagofaa.F
