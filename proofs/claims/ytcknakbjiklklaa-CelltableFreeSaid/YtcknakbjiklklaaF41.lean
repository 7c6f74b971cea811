import Derived.Test.YtcknakbjiklklaaF24
import Derived.Test.YtcknakbjiklklaaF25
import Derived.Test.YtcknakbjiklklaaH1
import Derived.Test.YtcknakbjiklklaaS12
/- slices.EqualFunc; Opposite. -/
namespace Go.Proofs.Ytcknakbjiklklaa.F
open Go.RowKit Go.Sort Go.Proofs.Ytcknakbjiklklaa.B Go.Proofs.Ytcknakbjiklklaa.S
set_option linter.unusedVariables false
set_option linter.unusedSimpArgs false
theorem eq68 : ∀ args W, (callFunc 68 args).run Try.prog W = .ok (.enter 68 args) W := enters_of Try.func68 (by kernel_rfl) rfl
set_option maxHeartbeats 2000000 in
theorem clo68 (x y : TC) (w : World) : Calls Try.prog 68 #[vT x, vT y] w fun e w' => e = .returned (.bool (oppP x y)) ∧ Gr w w' := by
  obtain ⟨x0, x1, x2, x3, x4, x5⟩ := x
  obtain ⟨y0, y1, y2, y3, y4, y5⟩ := y
  unfold oppP
  simp only [vT]
  generalize h0 : (x0 == y0) = q0
  generalize h1 : (x1 == y1) = q1
  cases q0
  · go_enter Try.func68, Try.ntmps68
    go_wp2
    go_ret
    exact ⟨ret_bool (by simp), (by repeat (first | exact Gr.refl _ | with_reducible apply Gr.alloc | with_reducible apply Gr.grow | with_reducible apply Gr.drewN | with_reducible apply Gr.drew))⟩
  · cases q1
    all_goals
      go_enter Try.func68, Try.ntmps68
      go_wp2
      go_ret
      exact ⟨ret_bool (by first | (simp; done) | (cases x3 <;> cases y3 <;> simp)), (by repeat (first | exact Gr.refl _ | with_reducible apply Gr.alloc | with_reducible apply Gr.grow | with_reducible apply Gr.drewN | with_reducible apply Gr.drew))⟩
set_option maxHeartbeats 4000000 in
theorem tequalf (A B : Option Addr) (c d : Nat) (a b : List TC) (w : World) (ha : Rd w A a) (hb : Rd w B b) (hc : a.length ≤ c) (hd : b.length ≤ d) :
    Calls Try.prog 67 #[.slice A a.length c, .slice B b.length d, .func (.func 68) #[] #[]] w fun e w' => e = .returned (.bool (oppS a b)) ∧ Gr w w' := by
  have hla := ha.1
  have hlb := hb.1
  have HA := Hd.mk ha
  have HB := Hd.mk hb
  clear ha hb
  by_cases hl : a.length = b.length
  · have hlz : ((a.length : Int) == (b.length : Int)) = true := by simp; omega
    have hlz2 : ((a.length : Int) != (b.length : Int)) = false := by simp; omega
    generalize hres : oppS a b = res
    have HRes := Hd.mk hres
    have HEnd := Hd.mk (opp_end hl)
    have HL := Hd.mk hl
    clear hl hres
    go_enter Try.func67, Try.ntmps67
    go_wp2
    go_loopg [7, 8, 9, 17] a.length (fun gg s7 s8 s9 s17 wr => ∃ k : Nat, k ≤ a.length ∧ a.length - k ≤ gg ∧ s17 = .int .i64 k ∧ Hd (Gr w wr) ∧ Hd (res = oppS (a.drop k) (b.drop k)))
    case atStart => exact ⟨0, Nat.zero_le _, by omega, rfl, ⟨Gr.refl w⟩, ⟨HRes.out.symm⟩⟩
    case round =>
      obtain ⟨k, hk, hg, rfl, GW, CF⟩ := hrel
      by_cases hlt : k < a.length
      · have hltb : k < b.length := by have := HL.out; omega
        obtain ⟨ba, oa, rfl, hba, hca⟩ := (HA.out.gr GW.out).2 (by omega)
        obtain ⟨bb, ob, rfl, hbb, hcb⟩ := (HB.out.gr GW.out).2 (by omega)
        obtain ⟨k0, k1, k2, k3, k4, k5⟩ := hca k hlt
        obtain ⟨m0, m1, m2, m3, m4, m5⟩ := hcb k hltb
        have hltz : (k : Int) < (a.length : Int) := by omega
        have hltz2 : (k : Int) < (b.length : Int) := by omega
        have hkz : (0 : Int) ≤ (k : Int) := by omega
        have hyes := opp_yes hlt hltb
        have hno := opp_no hlt hltb
        have hcall := clo68 (nth a k) (nth b k)
        clear hca hcb
        generalize nth a k = x at *
        generalize nth b k = y at *
        obtain ⟨x0, x1, x2, x3, x4, x5⟩ := x
        obtain ⟨y0, y1, y2, y3, y4, y5⟩ := y
        simp only [vT] at *
        have HYes := Hd.mk hyes
        have HNo := Hd.mk hno
        have eg := eq68
        clear hyes hno
        generalize oppP ⟨x0, x1, x2, x3, x4, x5⟩ ⟨y0, y1, y2, y3, y4, y5⟩ = q at *
        cases q with
        | true =>
          go_wp2_with (go_at_fn 68; (with_reducible refine (hcall _).mono ?_); rintro e w' ⟨rfl, hg⟩; obtain ⟨n, os, rfl⟩ := hg.out; clear hg)
          go_roundg (a.length - (k + 1))
          case measure => omega
          case rel => exact ⟨k + 1, by omega, by omega, by go_num, ⟨GW.out.trans (by repeat (first | exact Gr.refl _ | with_reducible apply Gr.alloc | with_reducible apply Gr.grow | with_reducible apply Gr.drewN | with_reducible apply Gr.drew))⟩, ⟨by rw [CF.out, HYes.out (by first | trivial | rfl)]⟩⟩
        | false =>
          go_wp2_with (go_at_fn 68; (with_reducible refine (hcall _).mono ?_); rintro e w' ⟨rfl, hg⟩; obtain ⟨n, os, rfl⟩ := hg.out; clear hg)
          go_ret
          exact ⟨ret_bool (by rw [CF.out, HNo.out (by first | trivial | rfl)]), GW.out.trans (by repeat (first | exact Gr.refl _ | with_reducible apply Gr.alloc | with_reducible apply Gr.grow | with_reducible apply Gr.drewN | with_reducible apply Gr.drew))⟩
      · obtain rfl : k = a.length := by omega
        have hltz : ¬ ((a.length : Int) < (a.length : Int)) := by omega
        go_wp2
        go_ret
        exact ⟨ret_bool (by rw [CF.out, HEnd.out]), GW.out.trans (by repeat (first | exact Gr.refl _ | with_reducible apply Gr.alloc | with_reducible apply Gr.grow | with_reducible apply Gr.drewN | with_reducible apply Gr.drew))⟩
  · have hlz : ((a.length : Int) == (b.length : Int)) = false := by simp; omega
    have hlz2 : ((a.length : Int) != (b.length : Int)) = true := by simp; omega
    rw [opp_ne hl]
    go_enter Try.func67, Try.ntmps67
    go_wp2
    go_ret
    exact ⟨rfl, (by repeat (first | exact Gr.refl _ | with_reducible apply Gr.alloc | with_reducible apply Gr.grow | with_reducible apply Gr.drewN | with_reducible apply Gr.drew))⟩
set_option maxHeartbeats 4000000 in
set_option maxRecDepth 100000 in
theorem xopp (A B : Option Addr) (c d : Nat) (a b : List TC) (w : World) (ha : Rd w A a) (hb : Rd w B b) (hc : a.length ≤ c) (hd : b.length ≤ d) :
    Calls Try.prog 69 #[.slice A a.length c, .slice B b.length d] w fun e w' => e = .returned (.bool (oppS a b)) ∧ Gr w w' := by
  have hm := mixed
  have hla := ha.1
  have hlb := hb.1
  have HA := Hd.mk ha
  have HB := Hd.mk hb
  clear ha hb
  by_cases hl : a.length = b.length
  · have hlz : ((a.length : Int) == (b.length : Int)) = true := by simp; omega
    have hlz2 : ((a.length : Int) != (b.length : Int)) = false := by simp; omega
    generalize hres : oppS a b = res
    have HRes := Hd.mk hres
    have HEnd := Hd.mk (opp_end hl)
    have HL := Hd.mk hl
    clear hl hres
    go_enter Try.func69, Try.ntmps69
    go_wp2
    go_loopg [5] a.length (fun gg s5 wr => ∃ k : Nat, k ≤ a.length ∧ a.length - k ≤ gg ∧ s5 = .int .i64 k ∧ Hd (Gr w wr) ∧ Hd (res = oppS (a.drop k) (b.drop k)))
    case atStart => exact ⟨0, Nat.zero_le _, by omega, rfl, ⟨Gr.refl w⟩, ⟨HRes.out.symm⟩⟩
    case round =>
      obtain ⟨k, hk, hg, rfl, GW, CF⟩ := hrel
      by_cases hlt : k < a.length
      · have hltb : k < b.length := by have := HL.out; omega
        obtain ⟨ba, oa, rfl, hba, hca⟩ := (HA.out.gr GW.out).2 (by omega)
        obtain ⟨bb, ob, rfl, hbb, hcb⟩ := (HB.out.gr GW.out).2 (by omega)
        obtain ⟨k0, k1, k2, k3, k4, k5⟩ := hca k hlt
        obtain ⟨m0, m1, m2, m3, m4, m5⟩ := hcb k hltb
        have hltz : (k : Int) < (a.length : Int) := by omega
        have hltz2 : (k : Int) < (b.length : Int) := by omega
        have hkz : (0 : Int) ≤ (k : Int) := by omega
        have HYes := Hd.mk (opp_yes hlt hltb)
        have HNo := Hd.mk (opp_no hlt hltb)
        clear hca hcb
        generalize hxa : nth a k = x at *
        generalize hyb : nth b k = y at *
        obtain ⟨x0, x1, x2, x3, x4, x5⟩ := x
        obtain ⟨y0, y1, y2, y3, y4, y5⟩ := y
        have HXa := Hd.mk hxa
        have HYb := Hd.mk hyb
        clear hxa hyb
        dsimp only at *
        have hopp : oppP ⟨x0, x1, x2, x3, x4, x5⟩ ⟨y0, y1, y2, y3, y4, y5⟩ = (!(x0 != y0) && (!(x1 != y1) && !(x3 == y3))) := by simp [oppP, bne]
        generalize h0 : (x0 != y0) = q0 at *
        generalize h1 : (x1 != y1) = q1 at *
        generalize h3 : (x3 == y3) = q3 at *
        have HOpp := Hd.mk hopp
        clear hopp
        cases q0
        · cases q1
          · cases q3
            · go_upto_region 6 with fail
              go_quiet (fail)
              go_wp2
              go_roundg (a.length - (k + 1))
              case measure => omega
              case rel => exact ⟨k + 1, by omega, by omega, by go_num, ⟨GW.out.trans (by repeat (first | exact Gr.refl _ | with_reducible apply Gr.alloc | with_reducible apply Gr.grow | with_reducible apply Gr.drewN | with_reducible apply Gr.drew))⟩, ⟨by rw [CF.out, HYes.out (by first | (rw [HOpp.out]; rfl) | (rw [HXa.out, HYb.out, HOpp.out]; rfl))]⟩⟩
            · go_upto_region 6 with fail
              go_quiet (fail)
              go_wp2
              go_ret
              exact ⟨ret_bool (by rw [CF.out, HNo.out (by first | (rw [HOpp.out]; rfl) | (rw [HXa.out, HYb.out, HOpp.out]; rfl))]), GW.out.trans (by repeat (first | exact Gr.refl _ | with_reducible apply Gr.alloc | with_reducible apply Gr.grow | with_reducible apply Gr.drewN | with_reducible apply Gr.drew))⟩
          · go_upto_region 6 with fail
            go_quiet (fail)
            go_wp2
            go_ret
            exact ⟨ret_bool (by rw [CF.out, HNo.out (by first | (rw [HOpp.out]; rfl) | (rw [HXa.out, HYb.out, HOpp.out]; rfl))]), GW.out.trans (by repeat (first | exact Gr.refl _ | with_reducible apply Gr.alloc | with_reducible apply Gr.grow | with_reducible apply Gr.drewN | with_reducible apply Gr.drew))⟩
        · go_upto_region 6 with fail
          go_quiet (fail)
          go_wp2
          go_ret
          exact ⟨ret_bool (by rw [CF.out, HNo.out (by first | (rw [HOpp.out]; rfl) | (rw [HXa.out, HYb.out, HOpp.out]; rfl))]), GW.out.trans (by repeat (first | exact Gr.refl _ | with_reducible apply Gr.alloc | with_reducible apply Gr.grow | with_reducible apply Gr.drewN | with_reducible apply Gr.drew))⟩
      · obtain rfl : k = a.length := by omega
        have hltz : ¬ ((a.length : Int) < (a.length : Int)) := by omega
        go_wp2
        go_ret
        exact ⟨ret_bool (by rw [CF.out, HEnd.out]), GW.out.trans (by repeat (first | exact Gr.refl _ | with_reducible apply Gr.alloc | with_reducible apply Gr.grow | with_reducible apply Gr.drewN | with_reducible apply Gr.drew))⟩
  · have hlz : ((a.length : Int) == (b.length : Int)) = false := by simp; omega
    have hlz2 : ((a.length : Int) != (b.length : Int)) = true := by simp; omega
    rw [opp_ne hl]
    go_enter Try.func69, Try.ntmps69
    go_wp2
    go_ret
    exact ⟨rfl, (by repeat (first | exact Gr.refl _ | with_reducible apply Gr.alloc | with_reducible apply Gr.grow | with_reducible apply Gr.drewN | with_reducible apply Gr.drew))⟩
end Go.Proofs.Ytcknakbjiklklaa.F
