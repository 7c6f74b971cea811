import Derived.Test.YtcknakbjiklklaaF18
import Derived.Test.YtcknakbjiklklaaF26
import Derived.Test.YtcknakbjiklklaaF44
/- The law CelltableEnds, walked. -/
namespace Go.Proofs.Ytcknakbjiklklaa.L
open Go.RowKit Go.Sort Go.Proofs.Ytcknakbjiklklaa.B Go.Proofs.Ytcknakbjiklklaa.S Go.Proofs.Ytcknakbjiklklaa.F
set_option linter.unusedVariables false
set_option linter.unusedSimpArgs false
theorem many_le (l : List SC) (k : Int) : manyS l k ≤ 2 * l.length := by
  unfold manyS
  have h1 : l.countP (fun c => decide (c.fr < k)) ≤ l.length := List.countP_le_length
  have h2 : l.countP (fun c => decide (c.tt < k)) ≤ l.length := List.countP_le_length
  omega
/-- What the walk wants of a schedule whose mask is none of an error. -/
structure EndFacts (len offs : Int) (l : List SC) : Prop where
  l512 : l.length ≤ 512
  len1 : 1 ≤ len ∧ len ≤ 512
  offs1 : 1 ≤ offs ∧ offs ≤ 16
  flen : ((maskS len offs l).1.length : Int) = len
  fbd : ∀ j, j < (maskS len offs l).1.length → 0 ≤ nth (maskS len offs l).1 j ∧ nth (maskS len offs l).1 j < 65536
  fbit : ∀ s k : Nat, s < (maskS len offs l).1.length → k < 16 → bitS (nth (maskS len offs l).1 s) k = (decide ((k : Int) < offs) && !usedP l s k)
  m0 : manyS l 0 = 0
  m32 : manyS l 32 = 2 * l.length
  next : ∀ k : Nat, (ofS len offs l k).2 = 0 → manyS l ((k + 1 : Nat) : Int) = manyS l k + (ofS len offs l k).1.l.length ∧ (ofS len offs l k).1.l.length ≤ 512
  cells : ∀ k : Nat, (ofS len offs l k).2 = 0 → ∀ x ∈ (ofS len offs l k).1.l, x.ki = 1 ∧ backX k x ∈ l
  err : ∀ k : Nat, k < 32 → (ofS len offs l k).2 ≠ 0 → (ofS len offs l k).2 = 16
theorem end_facts {len offs : Int} {l : List SC} (h : (maskS len offs l).2 = 0) : EndFacts len offs l := by
  have hr : rightS len offs l = true := by
    cases e : rightS len offs l with
    | true => rfl
    | false => unfold maskS at h; rw [if_pos e] at h; cases h
  obtain ⟨a, b, c, d⟩ := right_ok hr
  have hg : ∀ x ∈ l, (0 ≤ x.sl ∧ x.sl < len) ∧ (0 ≤ x.off ∧ x.off < offs) ∧ (0 ≤ x.fr ∧ x.fr ≤ 31) ∧ (0 ≤ x.tt ∧ x.tt ≤ 31) ∧ x.fr ≠ x.tt ∧ 0 ≤ x.fl := fun x hx => by
    obtain ⟨k, hk, rfl⟩ := mem_nth.1 hx
    exact bad_not (d k hk)
  obtain ⟨_, e2, e3, e4⟩ := mask_bits hr (fun x hx => ⟨(hg x hx).1, (hg x hx).2.1⟩) a b
  refine ⟨c, a, b, e2, e3, e4, many_zero fun x hx => ?_, many_all fun x hx => ?_, fun k hk => ?_, fun k hk => ofS_cells hk, fun k hk he => ofS_err hr (by omega) he⟩
  · have := hg x hx; omega
  · have := hg x hx; omega
  · have h1 := ofS_many hk
    have h2 := many_next (k : Int) (l := l) (fun x hx => (hg x hx).2.2.2.2.1)
    rw [h1, show ((k + 1 : Nat) : Int) = (k : Int) + 1 by omega, h2]
    exact ⟨rfl, Nat.le_trans List.countP_le_length c⟩
set_option maxHeartbeats 8000000 in
set_option maxRecDepth 100000 in
theorem lawEnds (len offs : Int) (A : Option Addr) (c : Nat) (l : List SC) (w : World) (hr : RdS w A l) (hc : l.length ≤ c) :
    Calls Try.prog 5 #[.agg #[.int .i64 len, .int .i64 offs, .slice A l.length c]] w fun e w' => e = .returned (.bool true) ∧ Bl w w' := by
  have hm := mixed
  have hA := awake_
  have hl := hr.1
  have hF := fun W => qfews len offs A c l W hr.1
  have hM : ∀ W, Bl w W → _ := fun W h => tmask len offs A c l W (hr.bl h) hc
  have hO : ∀ (k : Int) W, Bl w W → _ := fun k W h => tof len offs k A c l W (hr.bl h) hc
  have hE := @end_facts len offs l
  have HR := Hd.mk hr
  have HO := Hd.mk hO
  have HEf := Hd.mk hE
  clear hr hO hE
  generalize fewT len l.length = f at *
  go_enter Try.func5, Try.ntmps5
  go_upto_region 3 with (first | (go_at_call 11; (with_reducible refine (hA _).mono ?_); rintro e w' ⟨rfl, hg⟩; obtain ⟨n, os, rfl⟩ := hg.out; clear hg))
  generalize hW : Sort.grow _ _ = W
  have HWe := Hd.mk hW
  clear hW
  have HT : Hd (T3 W w.heap.size len offs (.slice A l.length c)) := ⟨⟨by rw [← HWe.out]; simp [go_sem], by rw [← HWe.out]; go_simp, by rw [← HWe.out]; go_simp, by rw [← HWe.out]; go_simp, fun k => by rw [← HWe.out]; go_simp⟩⟩
  have HB : Hd (Bl w W) := ⟨by rw [← HWe.out]; exact (by repeat (first | exact Bl.refl _ | with_reducible apply Bl.alloc | with_reducible apply Bl.grow | with_reducible apply Bl.sd | with_reducible apply Bl.drewN | with_reducible apply Bl.drew))⟩
  clear HWe hA
  generalize w.heap.size = p1 at *
  obtain ⟨z_T, a_T, b_T, c_T, d_T⟩ := HT.out
  go_wp2_with fail
  refine (hM _ HB.out).mono ?_
  rintro e W1 ⟨v1, rfl, ho, hb⟩
  obtain ⟨A1, c1, rfl, hc1, rd1⟩ := OwI.rd ho
  replace HB := Hd.mk (HB.out.trans hb)
  replace HT := Hd.mk (HT.out.bl hb)
  have HRf := Hd.mk rd1
  clear z_T a_T b_T c_T d_T ho hb rd1 hM
  obtain ⟨z_T, a_T, b_T, c_T, d_T⟩ := HT.out
  cases f with
  | false =>
    go_wp2_with (first | (go_at_call 15; (with_reducible refine (hF _).mono ?_); rintro e w' ⟨rfl, hg⟩; obtain ⟨n, os, rfl⟩ := hg.out; clear hg))
    go_ret
    exact ⟨rfl, HB.out.trans (by repeat (first | with_reducible exact Bl.refl _ | with_reducible apply Bl.alloc | with_reducible apply Bl.grow | with_reducible apply Bl.sd | with_reducible apply Bl.drewN | with_reducible apply Bl.drew))⟩
  | true =>
    by_cases hme : (maskS len offs l).2 = 0
    · obtain ⟨l512, len1, offs1, flen, fbd, fbit, m0, m32, hnext, hcells, herr⟩ := HEf.out hme
      rw [hme]
      generalize (maskS len offs l).1 = mf at *
      have HFl := Hd.mk flen
      have HFbd := Hd.mk fbd
      have HFbit := Hd.mk fbit
      have HM0 := Hd.mk m0
      have HM32 := Hd.mk m32
      have HNext := Hd.mk hnext
      have HCells := Hd.mk hcells
      have HErr := Hd.mk herr
      have hmfl : mf.length ≤ 512 := by omega
      clear HEf hme flen fbd fbit m0 m32 hnext hcells herr
      go_upto_region 8 with (first | (go_at_call 15; (with_reducible refine (hF _).mono ?_); rintro e w' ⟨rfl, hg⟩; obtain ⟨n, os, rfl⟩ := hg.out; clear hg))
      generalize hV : Sort.grow _ _ = V
      have BV : Bl W1 V := by rw [← hV]; exact (by repeat (first | with_reducible exact Bl.refl _ | with_reducible apply Bl.alloc | with_reducible apply Bl.grow | with_reducible apply Bl.sd | with_reducible apply Bl.drewN | with_reducible apply Bl.drew))
      replace HB := Hd.mk (HB.out.trans BV)
      replace HT := Hd.mk (HT.out.bl BV)
      replace HRf := Hd.mk (RdI.bl HRf.out BV)
      clear hV BV z_T a_T b_T c_T d_T hF
      go_loopg [5, 6, 7, 8, 10, 11, 30] 32 (fun gg s5 s6 s7 s8 s10 s11 s30 wr => ∃ k : Nat, k ≤ 32 ∧ 32 - k ≤ gg ∧ s30 = .int .i64 k ∧ s5 = .int .i64 ((manyS l k : Nat) : Int) ∧ Hd (Bl V wr))
      case atStart => exact ⟨0, by omega, by omega, rfl, by rw [show ((0 : Nat) : Int) = 0 from rfl, HM0.out]; rfl, ⟨Bl.refl _⟩⟩
      case round =>
        obtain ⟨k, hk, hg, rfl, rfl, GW⟩ := hrel
        obtain ⟨z_T, a_T, b_T, c_T, d_T⟩ := HT.out.bl GW.out
        by_cases hlt : k < 32
        · have hltz : (k : Int) < 32 := by omega
          have hok := HO.out (k : Int)
          have hnx := HNext.out k
          have hce := HCells.out k
          have her := HErr.out k hlt
          have hml := many_le l k
          generalize ofS len offs l (k : Int) = r at *
          obtain ⟨⟨rn, rl, rc⟩, re⟩ := r
          dsimp only at hok hnx hce her
          go_wp2_with fail
          refine (hok _ (HB.out.trans (GW.out.trans (by repeat (first | with_reducible exact Bl.refl _ | with_reducible apply Bl.alloc | with_reducible apply Bl.grow | with_reducible apply Bl.sd | with_reducible apply Bl.drewN | with_reducible apply Bl.drew))))).mono ?_
          rintro e Y ⟨v, rfl, ho, hb⟩
          obtain ⟨A2, c2, rfl, hc2, rd2⟩ := ho.rd
          have BY : Bl wr Y := Bl.trans (by repeat (first | with_reducible exact Bl.refl _ | with_reducible apply Bl.alloc | with_reducible apply Bl.grow | with_reducible apply Bl.sd | with_reducible apply Bl.drewN | with_reducible apply Bl.drew)) hb
          have HGY := Hd.mk (GW.out.trans BY)
          have HR2 := Hd.mk rd2
          clear ho hb rd2 BY z_T a_T b_T c_T d_T hok
          by_cases hre : re = 0
          · subst hre
            obtain ⟨hn1, hn2⟩ := hnx (by first | trivial | rfl)
            have HCe := Hd.mk (hce (by first | trivial | rfl))
            have hn3 : ((manyS l ((k + 1 : Nat) : Int) : Nat) : Int) = (manyS l (k : Int) : Nat) + (rc.length : Int) := by omega
            have HN3 := Hd.mk hn3
            clear hnx hce her hn1 hn3
            go_upto_region 15 with fail
            generalize hU : World.alloc _ _ = U
            have HUe := Hd.mk hU
            clear hU
            have BU : Bl Y U := by rw [← HUe.out]; exact (by repeat (first | with_reducible exact Bl.refl _ | with_reducible apply Bl.alloc | with_reducible apply Bl.grow | with_reducible apply Bl.sd | with_reducible apply Bl.drewN | with_reducible apply Bl.drew))
            replace HGY := Hd.mk (HGY.out.trans BU)
            replace HR2 := Hd.mk (HR2.out.bl BU)
            clear HUe BU
            have HGW := GW
            clear GW
            generalize hwr0 : wr = wr0 at *
            clear hwr0
            have hl2 := HR2.out.1
            go_loopg [10, 11, 51] rc.length (fun gg s10 s11 s51 wq => ∃ j : Nat, j ≤ rc.length ∧ rc.length - j ≤ gg ∧ s51 = .int .i64 j ∧ Hd (Bl U wq))
            case atStart => exact ⟨0, Nat.zero_le _, by omega, rfl, ⟨Bl.refl _⟩⟩
            case round =>
              obtain ⟨j, hj, hgj, rfl, GQ⟩ := hrel
              obtain ⟨z_T, a_T, b_T, c_T, d_T⟩ := HT.out.bl (HGY.out.trans GQ.out)
              by_cases hjl : j < rc.length
              · obtain ⟨b, off, rfl, hb, hcell⟩ := (HR2.out.bl GQ.out).2 (by omega)
                obtain ⟨k0, k1, k2, k3, k4, k5⟩ := hcell j hjl
                have hltj : (j : Int) < (rc.length : Int) := by omega
                have hjz : (0 : Int) ≤ (j : Int) := by omega
                obtain ⟨hki, hmem⟩ := HCe.out _ (mem_nth.2 ⟨j, hjl, rfl⟩)
                clear hcell
                generalize nth rc j = x at *
                obtain ⟨u0, u1, u2, u3, u4, u5⟩ := x
                dsimp only at *
                subst hki
                have HBr := Hd.mk (HB.out.trans (HGY.out.trans GQ.out))
                cases u3 with
                | true =>
                  have hct := fun W (h : Bl w W) => scontains A c l ⟨u0, u1, k, u4, u5⟩ W (HR.out.bl h) hc hmem
                  clear hmem
                  simp only [vS] at hct
                  go_upto_region 19 with fail
                  go_region
                  go_wp2_with (first | (go_at_call 22; (with_reducible refine (hct _ (HBr.out.trans (by repeat (first | with_reducible exact Bl.refl _ | with_reducible apply Bl.alloc | with_reducible apply Bl.drewN | with_reducible apply Bl.drew | with_reducible refine Bl.setCell ?_ (by omega))))).mono ?_); rintro e w' ⟨rfl, hg⟩; obtain ⟨n, os, rfl⟩ := hg.out; clear hg))
                  go_roundg (rc.length - (j + 1))
                  case measure => omega
                  case rel => exact ⟨j + 1, by omega, by omega, by go_num, ⟨GQ.out.trans (by repeat (first | with_reducible exact Bl.refl _ | with_reducible apply Bl.grow | with_reducible apply Bl.alloc | with_reducible apply Bl.drewN | with_reducible apply Bl.drew | with_reducible refine Bl.setCell ?_ (by omega)))⟩⟩
                | false =>
                  have hct := fun W (h : Bl w W) => scontains A c l ⟨u0, u1, u4, k, u5⟩ W (HR.out.bl h) hc hmem
                  clear hmem
                  simp only [vS] at hct
                  go_wp2_with (first | (go_at_call 22; (with_reducible refine (hct _ (HBr.out.trans (by repeat (first | with_reducible exact Bl.refl _ | with_reducible apply Bl.alloc | with_reducible apply Bl.grow | with_reducible apply Bl.sd | with_reducible apply Bl.drewN | with_reducible apply Bl.drew)))).mono ?_); rintro e w' ⟨rfl, hg⟩; obtain ⟨n, os, rfl⟩ := hg.out; clear hg))
                  go_roundg (rc.length - (j + 1))
                  case measure => omega
                  case rel => exact ⟨j + 1, by omega, by omega, by go_num, ⟨GQ.out.trans (by repeat (first | with_reducible exact Bl.refl _ | with_reducible apply Bl.alloc | with_reducible apply Bl.grow | with_reducible apply Bl.sd | with_reducible apply Bl.drewN | with_reducible apply Bl.drew))⟩⟩
              · obtain rfl : j = rc.length := by omega
                have hltj : ¬ ((rc.length : Int) < (rc.length : Int)) := by omega
                go_wp2
                go_roundg (32 - (k + 1))
                case measure => omega
                case rel => exact ⟨k + 1, by omega, by omega, by go_num, by rw [HN3.out], ⟨HGY.out.trans (GQ.out.trans (by repeat (first | with_reducible exact Bl.refl _ | with_reducible apply Bl.alloc | with_reducible apply Bl.grow | with_reducible apply Bl.sd | with_reducible apply Bl.drewN | with_reducible apply Bl.drew)))⟩⟩
          · obtain rfl : re = 16 := her hre
            clear hnx hce her
            go_wp2
            go_ret
            exact ⟨rfl, HB.out.trans (HGY.out.trans (by repeat (first | with_reducible exact Bl.refl _ | with_reducible apply Bl.alloc | with_reducible apply Bl.grow | with_reducible apply Bl.sd | with_reducible apply Bl.drewN | with_reducible apply Bl.drew)))⟩
        · obtain rfl : k = 32 := by omega
          have hltz : ¬ ((((32 : Nat) : Nat) : Int) < 32) := by omega
          have hmm : ((manyS l ((32 : Nat) : Int) : Nat) : Int) = 2 * (l.length : Int) := by rw [show ((32 : Nat) : Int) = 32 from rfl, HM32.out]; omega
          have hflb : ((mf.length : Int) != len) = false := by have := HFl.out; simp [this]
          generalize manyS l ((32 : Nat) : Int) = mm at *
          have hmb : ((mm : Int) != 2 * (l.length : Int)) = false := by simp [hmm]
          have HMm := Hd.mk hmm
          clear hmm
          go_upto_region 27 with fail
          generalize hwr0 : wr = V2 at *
          clear hwr0
          have hlf := HRf.out.1
          clear z_T a_T b_T c_T d_T
          go_loopg [12, 13, 14, 15, 99] mf.length (fun gg s12 s13 s14 s15 s99 wr => ∃ s : Nat, s ≤ mf.length ∧ mf.length - s ≤ gg ∧ s99 = .int .i64 s ∧ Hd (Bl V wr))
          case atStart => exact ⟨0, Nat.zero_le _, by omega, rfl, GW⟩
          case round =>
            obtain ⟨s, hs, hgs, rfl, GX⟩ := hrel
            by_cases hsl : s < mf.length
            · obtain ⟨fb, fo, rfl, hfbz, hfc⟩ := (RdI.bl HRf.out GX.out).2 (by omega)
              have fc := hfc s hsl
              have hsz : (s : Int) < (mf.length : Int) := by omega
              have hsz0 : (0 : Int) ≤ (s : Int) := by omega
              obtain ⟨a0, a1⟩ := HFbd.out s hsl
              have hbt := fun k hk => HFbit.out s k hsl hk
              clear hfc
              generalize nth mf s = a at *
              have HBt := Hd.mk hbt
              clear hbt
              go_upto_region 30 with fail
              generalize hU : World.alloc _ _ = U
              have HUe := Hd.mk hU
              clear hU
              have HS : Hd (U.cell? ⟨wr.heap.size, 0, none⟩ = some (.int .i64 s)) := ⟨by rw [← HUe.out]; go_simp⟩
              have BU : Bl wr U := by rw [← HUe.out]; exact (by repeat (first | with_reducible exact Bl.refl _ | with_reducible apply Bl.alloc | with_reducible apply Bl.grow | with_reducible apply Bl.sd | with_reducible apply Bl.drewN | with_reducible apply Bl.drew))
              have HGU := Hd.mk (GX.out.trans BU)
              have zq : wr.heap.size < U.heap.size := World.block_lt_of_cell? U _ HS.out
              clear HUe BU fc hfbz
              generalize wr.heap.size = q12 at *
              clear GX
              generalize hwr1 : wr = V3 at *
              clear hwr1
              go_loopg [14, 15, 104] 16 (fun gg s14 s15 s104 wq => ∃ k : Nat, k ≤ 16 ∧ 16 - k ≤ gg ∧ s104 = .int .i64 k ∧ Hd (Bl U wq))
              case atStart => exact ⟨0, by omega, by omega, rfl, ⟨Bl.refl _⟩⟩
              case round =>
                obtain ⟨k, hk, hgk, rfl, GQ⟩ := hrel
                by_cases hkl : k < 16
                · have hkz : (k : Int) < 16 := by omega
                  have hk0 : (0 : Int) ≤ (k : Int) := by omega
                  obtain ⟨z_T, a_T, b_T, c_T, d_T⟩ := HT.out.bl (HGU.out.trans GQ.out)
                  have sc := (Below.cell GQ.out (p := ⟨q12, 0, none⟩) zq).trans HS.out
                  have zqr : q12 < wr.heap.size := World.block_lt_of_cell? wr _ sc
                  have hbit := bit_of k a0 a1
                  rw [HBt.out k hkl] at hbit
                  have hU := fun W (h : Bl wr W) h1 h2 => sused A c l (s : Int) (k : Int) q12 wr.heap.size W (HR.out.bl (HB.out.trans (HGU.out.trans (GQ.out.trans h)))) hc h1 h2
                  generalize usedP l (s : Int) (k : Int) = u at *
                  by_cases hko : (k : Int) < offs
                  · rw [decide_eq_true hko, Bool.true_and] at hbit
                    cases u with
                    | true =>
                      go_upto_region 33 with (first | (go_at_call 23; (refine (hU _ (by repeat (first | with_reducible exact Bl.refl _ | with_reducible apply Bl.alloc | with_reducible apply Bl.grow | with_reducible apply Bl.sd | with_reducible apply Bl.drewN | with_reducible apply Bl.drew)) ?c0 ?c1).mono ?_); (case c0 => go_simp); (case c1 => go_simp); rintro e w' ⟨rfl, hg⟩; obtain ⟨n, os, rfl⟩ := hg.out; clear hg))
                      go_quiet (fail)
                      go_wp2
                      go_roundg (16 - (k + 1))
                      case measure => omega
                      case rel => exact ⟨k + 1, by omega, by omega, by go_num, ⟨GQ.out.trans (by repeat (first | with_reducible exact Bl.refl _ | with_reducible apply Bl.alloc | with_reducible apply Bl.grow | with_reducible apply Bl.sd | with_reducible apply Bl.drewN | with_reducible apply Bl.drew))⟩⟩
                    | false =>
                      go_upto_region 33 with (first | (go_at_call 23; (refine (hU _ (by repeat (first | with_reducible exact Bl.refl _ | with_reducible apply Bl.alloc | with_reducible apply Bl.grow | with_reducible apply Bl.sd | with_reducible apply Bl.drewN | with_reducible apply Bl.drew)) ?c0 ?c1).mono ?_); (case c0 => go_simp); (case c1 => go_simp); rintro e w' ⟨rfl, hg⟩; obtain ⟨n, os, rfl⟩ := hg.out; clear hg))
                      go_quiet (fail)
                      go_wp2
                      go_roundg (16 - (k + 1))
                      case measure => omega
                      case rel => exact ⟨k + 1, by omega, by omega, by go_num, ⟨GQ.out.trans (by repeat (first | with_reducible exact Bl.refl _ | with_reducible apply Bl.alloc | with_reducible apply Bl.grow | with_reducible apply Bl.sd | with_reducible apply Bl.drewN | with_reducible apply Bl.drew))⟩⟩
                  · rw [decide_eq_false hko, Bool.false_and] at hbit
                    have hkd : decide ((k : Int) < offs) = false := decide_eq_false hko
                    go_upto_region 33 with (first | (go_at_call 23; (refine (hU _ (by repeat (first | with_reducible exact Bl.refl _ | with_reducible apply Bl.alloc | with_reducible apply Bl.grow | with_reducible apply Bl.sd | with_reducible apply Bl.drewN | with_reducible apply Bl.drew)) ?c0 ?c1).mono ?_); (case c0 => go_simp); (case c1 => go_simp); rintro e w' ⟨rfl, hg⟩; obtain ⟨n, os, rfl⟩ := hg.out; clear hg))
                    go_quiet (fail)
                    go_wp2
                    go_roundg (16 - (k + 1))
                    case measure => omega
                    case rel => exact ⟨k + 1, by omega, by omega, by go_num, ⟨GQ.out.trans (by repeat (first | with_reducible exact Bl.refl _ | with_reducible apply Bl.alloc | with_reducible apply Bl.grow | with_reducible apply Bl.sd | with_reducible apply Bl.drewN | with_reducible apply Bl.drew))⟩⟩
                · obtain rfl : k = 16 := by omega
                  go_wp2
                  go_roundg (mf.length - (s + 1))
                  case measure => omega
                  case rel => exact ⟨s + 1, by omega, by omega, by go_num, ⟨HGU.out.trans (GQ.out.trans (by repeat (first | with_reducible exact Bl.refl _ | with_reducible apply Bl.alloc | with_reducible apply Bl.grow | with_reducible apply Bl.sd | with_reducible apply Bl.drewN | with_reducible apply Bl.drew)))⟩⟩
            · obtain rfl : s = mf.length := by omega
              have hsz : ¬ ((mf.length : Int) < (mf.length : Int)) := by omega
              go_wp2
              go_ret
              exact ⟨rfl, HB.out.trans (GX.out.trans (by repeat (first | with_reducible exact Bl.refl _ | with_reducible apply Bl.alloc | with_reducible apply Bl.grow | with_reducible apply Bl.sd | with_reducible apply Bl.drewN | with_reducible apply Bl.drew)))⟩
    · have hmb : ((maskS len offs l).2 != 0) = true := by simp [hme]
      generalize (maskS len offs l).2 = me at *
      go_wp2_with (first | (go_at_call 15; (with_reducible refine (hF _).mono ?_); rintro e w' ⟨rfl, hg⟩; obtain ⟨n, os, rfl⟩ := hg.out; clear hg))
      go_ret
      exact ⟨rfl, HB.out.trans (by repeat (first | with_reducible exact Bl.refl _ | with_reducible apply Bl.alloc | with_reducible apply Bl.grow | with_reducible apply Bl.sd | with_reducible apply Bl.drewN | with_reducible apply Bl.drew))⟩
end Go.Proofs.Ytcknakbjiklklaa.L
