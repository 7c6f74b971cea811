import Derived.Test.YtcknakbjiklklaaF15
/- celltable.Candidates. -/
namespace Go.Proofs.Ytcknakbjiklklaa.F
open Go.RowKit Go.Sort Go.Proofs.Ytcknakbjiklklaa.B Go.Proofs.Ytcknakbjiklklaa.S
set_option linter.unusedVariables false
set_option linter.unusedSimpArgs false
set_option maxHeartbeats 4000000 in
theorem tcand_early (nd len : Int) (A : Option Addr) (c : Nat) (l : List TC) (B : Option Addr) (cb : Nat) (f : List Int) (nn : Int) (w : World) (hr : Rd w A l) (hc : l.length ≤ c) (hf : RdI w B f) (hcb : f.length ≤ cb) (hh : checkT nd len l ≠ 0 ∨ maskedS f len = false) :
    Calls Try.prog 33 #[.agg #[.int .i64 nd, .int .i64 len, .slice A l.length c], .slice B f.length cb, .int .i64 nn] w fun e w' => ∃ v, e = .returned v ∧ OwP w' w.heap.size v (candS nd len l f nn) ∧ Bl w w' := by
  have hC : ∀ W, Gr w W → _ := fun W h => tcheck nd len A c l W (hr.gr h) hc
  have hM : ∀ W, Gr w W → _ := fun W h => fmasked B cb f len W (RdI.gr hf h) hcb
  have hs : candS nd len l f nn = [] := by unfold candS; rw [if_pos hh]
  rw [hs]
  clear hr hf hs
  by_cases h1 : checkT nd len l = 0
  · rw [h1] at hC
    rw [hh.resolve_left (fun e => e h1)] at hM
    clear hh h1
    go_enter Try.func33, Try.ntmps33
    go_wp2_with (first | (go_at_call 13; (with_reducible refine (hC _ (by repeat (first | exact Gr.refl _ | with_reducible apply Gr.alloc | with_reducible apply Gr.grow | with_reducible apply Gr.drewN | with_reducible apply Gr.drew))).mono ?_); rintro e w' ⟨rfl, hg⟩; obtain ⟨n, os, rfl⟩ := hg.out; clear hg) | (go_at_call 64; (with_reducible refine (hM _ (by repeat (first | exact Gr.refl _ | with_reducible apply Gr.alloc | with_reducible apply Gr.grow | with_reducible apply Gr.drewN | with_reducible apply Gr.drew))).mono ?_); rintro e w' ⟨rfl, hg⟩; obtain ⟨n, os, rfl⟩ := hg.out; clear hg))
    go_ret
    exact ⟨_, rfl, OwP.nil _ _, (by repeat (first | exact Bl.refl _ | with_reducible apply Bl.alloc | with_reducible apply Bl.grow | with_reducible apply Bl.sd | with_reducible apply Bl.drewN | with_reducible apply Bl.drew))⟩
  · have h2 : (checkT nd len l != 0) = true := by simp [h1]
    generalize checkT nd len l = q at *
    clear hh h1
    go_enter Try.func33, Try.ntmps33
    go_wp2_with (first | (go_at_call 13; (with_reducible refine (hC _ (by repeat (first | exact Gr.refl _ | with_reducible apply Gr.alloc | with_reducible apply Gr.grow | with_reducible apply Gr.drewN | with_reducible apply Gr.drew))).mono ?_); rintro e w' ⟨rfl, hg⟩; obtain ⟨n, os, rfl⟩ := hg.out; clear hg))
    go_ret
    exact ⟨_, rfl, OwP.nil _ _, (by repeat (first | exact Bl.refl _ | with_reducible apply Bl.alloc | with_reducible apply Bl.grow | with_reducible apply Bl.sd | with_reducible apply Bl.drewN | with_reducible apply Bl.drew))⟩
set_option maxHeartbeats 4000000 in
set_option maxRecDepth 100000 in
theorem tcand_main (nd len : Int) (A : Option Addr) (c : Nat) (l : List TC) (B : Option Addr) (cb : Nat) (f : List Int) (nn : Int) (w : World) (hr : Rd w A l) (hc : l.length ≤ c) (hf : RdI w B f) (hcb : f.length ≤ cb) (h1 : checkT nd len l = 0) (h2 : maskedS f len = true) :
    Calls Try.prog 33 #[.agg #[.int .i64 nd, .int .i64 len, .slice A l.length c], .slice B f.length cb, .int .i64 nn] w fun e w' => ∃ v, e = .returned v ∧ OwP w' w.heap.size v (candS nd len l f nn) ∧ Bl w w' := by
  obtain ⟨i0, hi, hz0, hz1, hz2⟩ := info_of info55
  have hC : ∀ W, Gr w W → _ := fun W h => tcheck nd len A c l W (hr.gr h) hc
  have hM : ∀ W, Gr w W → _ := fun W h => fmasked B cb f len W (RdI.gr hf h) hcb
  obtain ⟨_, ⟨l0, l1⟩, _⟩ := checkT_ok h1
  obtain ⟨hfl, hfb⟩ := masked_ok h2
  have hs : candS nd len l f nn = candF f l nn len.toNat 0 [] := by unfold candS; rw [if_neg (by rw [h1, h2]; simp)]
  rw [hs]
  rw [h1] at hC
  rw [h2] at hM
  have HR := Hd.mk hr
  have HF := Hd.mk hf
  have HFl := Hd.mk hfl
  have HFb := Hd.mk hfb
  clear hr hf hs h1 h2 hfl hfb
  generalize hfin : candF f l nn len.toNat 0 [] = fin
  have HFin := Hd.mk hfin
  clear hfin
  go_enter Try.func33, Try.ntmps33
  go_upto_region 5 with (first | (go_at_call 13; (with_reducible refine (hC _ (by repeat (first | exact Gr.refl _ | with_reducible apply Gr.alloc | with_reducible apply Gr.grow | with_reducible apply Gr.drewN | with_reducible apply Gr.drew))).mono ?_); rintro e w' ⟨rfl, hg⟩; obtain ⟨n, os, rfl⟩ := hg.out; clear hg) | (go_at_call 64; (with_reducible refine (hM _ (by repeat (first | exact Gr.refl _ | with_reducible apply Gr.alloc | with_reducible apply Gr.grow | with_reducible apply Gr.drewN | with_reducible apply Gr.drew))).mono ?_); rintro e w' ⟨rfl, hg⟩; obtain ⟨n, os, rfl⟩ := hg.out; clear hg))
  generalize hW : Sort.grow _ _ = W
  have HWe := Hd.mk hW
  clear hW
  have b0 : W.cell? ⟨w.heap.size, 0, none⟩ = some (.int .i64 nd) := by rw [← HWe.out]; go_simp
  have b1 : W.cell? ⟨w.heap.size, 1, none⟩ = some (.int .i64 len) := by rw [← HWe.out]; go_simp
  have b2 : W.cell? ⟨w.heap.size, 2, none⟩ = some (.slice A l.length c) := by rw [← HWe.out]; go_simp
  have B0 : Bl w W := by rw [← HWe.out]; exact (by repeat (first | exact Bl.refl _ | with_reducible apply Bl.alloc | with_reducible apply Bl.grow | with_reducible apply Bl.sd | with_reducible apply Bl.drewN | with_reducible apply Bl.drew))
  have z0 := World.block_lt_of_cell? W _ b0
  dsimp only at z0
  have HB0 := Hd.mk B0
  have hws := B0.size
  clear HWe B0 hC hM
  go_loopg [7, 8, 9, 22, 39] len.toNat (fun gg s7 s8 s9 s22 s39 wr => ∃ (s : Nat) (out : List Sp), s ≤ len.toNat ∧ len.toNat - s ≤ gg ∧ s22 = .int .i64 s ∧ Hd (OwP wr W.heap.size s7 out ∧ out.length ≤ s) ∧ Hd (fin = candF f l nn (len.toNat - s) s out) ∧ Hd (Bl W wr))
  case atStart => exact ⟨0, [], Nat.zero_le _, by omega, rfl, ⟨OwP.nil _ _, Nat.le_refl _⟩, ⟨HFin.out.symm⟩, ⟨Bl.refl _⟩⟩
  case round =>
    obtain ⟨s, out, hs, hg, rfl, HO, HFn, HB⟩ := hrel
    obtain ⟨A1, c1, rfl, hc1, _⟩ := HO.out.1.rd
    by_cases hlt : s < len.toNat
    · have hltz : (s : Int) < len := by omega
      obtain ⟨m, hm⟩ : ∃ m, len.toNat - s = m + 1 := ⟨len.toNat - s - 1, by omega⟩
      have hm' : len.toNat - (s + 1) = m := by omega
      have hfn := HFn.out
      rw [hm] at hfn
      have HFn2 := Hd.mk hfn
      have HM' := Hd.mk hm'
      clear hm hm' hfn
      by_cases hn : nn ≤ (out.length : Int)
      · go_wp2
        go_ret
        exact ⟨_, rfl, OwP.lower (by rw [HFn2.out, cand_stop hn]; exact OwP.bl HO.out.1 (by repeat (first | with_reducible exact Bl.refl _ | with_reducible apply Bl.alloc | with_reducible apply Bl.grow | with_reducible apply Bl.sd | with_reducible apply Bl.drewN | with_reducible apply Bl.drew))) hws, HB0.out.trans (HB.out.trans (by repeat (first | with_reducible exact Bl.refl _ | with_reducible apply Bl.alloc | with_reducible apply Bl.grow | with_reducible apply Bl.sd | with_reducible apply Bl.drewN | with_reducible apply Bl.drew)))⟩
      · have hbl := HB.out
        have o := fun (q : Nat) => Below.cell hbl (p := ⟨w.heap.size, q, none⟩) z0
        have d0 := (o 0).trans b0
        have d1 := (o 1).trans b1
        have d2 := (o 2).trans b2
        have zd := World.block_lt_of_cell? wr _ d0
        dsimp only at zd
        have hbw := HB0.out.trans hbl
        have hsl : s < f.length := by have := HFl.out; omega
        have hU : ∀ X, Bl wr X → _ := fun X h => tused nd len A c l (s : Int) X (HR.out.bl (hbw.trans h)) hc
        obtain ⟨fb, fo, rfl, hfbz, hfc⟩ := (RdI.bl HF.out hbw).2 (by omega)
        have fc := hfc s hsl
        have hsz : (s : Int) < (f.length : Int) := by omega
        have hs0 : (0 : Int) ≤ (s : Int) := by omega
        have hskip := cand_skip (f := f) (l := l) (n := nn) (m := m) (s := s) (out := out) (by omega)
        have htake := fun k => cand_take (f := f) (l := l) (n := nn) (m := m) (s := s) (out := out) (by omega) (k := k)
        have hnone := cand_none (f := f) (l := l) (n := nn) (m := m) (s := s) (out := out) (by omega)
        have hab := HFb.out s hsl
        have HBw := Hd.mk hbw
        clear o hbl hbw hfc
        generalize nth f s = a at *
        by_cases ha : a = 0
        · have hab2 : (a == 0) = true := by simp [ha]
          have HSk := Hd.mk (hskip (.inl ha))
          clear hskip htake hnone ha
          go_wp2
          go_roundg (len.toNat - (s + 1))
          case measure => omega
          case rel => exact ⟨s + 1, out, by omega, by omega, by go_num, ⟨OwP.bl HO.out.1 (by repeat (first | with_reducible exact Bl.refl _ | with_reducible apply Bl.alloc | with_reducible apply Bl.grow | with_reducible apply Bl.sd | with_reducible apply Bl.drewN | with_reducible apply Bl.drew)), by have := HO.out.2; omega⟩, ⟨by rw [HFn2.out, HSk.out, HM'.out]⟩, ⟨HB.out.trans (by repeat (first | with_reducible exact Bl.refl _ | with_reducible apply Bl.alloc | with_reducible apply Bl.grow | with_reducible apply Bl.sd | with_reducible apply Bl.drewN | with_reducible apply Bl.drew))⟩⟩
        · have hab2 : (a == 0) = false := by simp [ha]
          generalize hq : usedS l (s : Int) = q at *
          cases q with
          | true =>
            have HSk := Hd.mk (hskip (.inr (by simp)))
            clear hskip htake hnone ha hq
            go_wp2_with (first | (go_at_call 65; (with_reducible refine (hU _ (by repeat (first | with_reducible exact Bl.refl _ | with_reducible apply Bl.alloc | with_reducible apply Bl.grow | with_reducible apply Bl.sd | with_reducible apply Bl.drewN | with_reducible apply Bl.drew))).mono ?_); rintro e w' ⟨rfl, hg⟩; obtain ⟨n, os, rfl⟩ := hg.out; clear hg))
            go_roundg (len.toNat - (s + 1))
            case measure => omega
            case rel => exact ⟨s + 1, out, by omega, by omega, by go_num, ⟨OwP.bl HO.out.1 (by repeat (first | with_reducible exact Bl.refl _ | with_reducible apply Bl.alloc | with_reducible apply Bl.grow | with_reducible apply Bl.sd | with_reducible apply Bl.drewN | with_reducible apply Bl.drew)), by have := HO.out.2; omega⟩, ⟨by rw [HFn2.out, HSk.out, HM'.out]⟩, ⟨HB.out.trans (by repeat (first | with_reducible exact Bl.refl _ | with_reducible apply Bl.alloc | with_reducible apply Bl.grow | with_reducible apply Bl.sd | with_reducible apply Bl.drewN | with_reducible apply Bl.drew))⟩⟩
          | false =>
            have HTk := Hd.mk (fun k => htake k (by simp [ha]))
            have HNo := Hd.mk (hnone (by simp [ha]))
            clear hskip htake hnone ha hq
            go_upto_region 10 with (first | (go_at_call 65; (with_reducible refine (hU _ (by repeat (first | with_reducible exact Bl.refl _ | with_reducible apply Bl.alloc | with_reducible apply Bl.grow | with_reducible apply Bl.sd | with_reducible apply Bl.drewN | with_reducible apply Bl.drew))).mono ?_); rintro e w' ⟨rfl, hg⟩; obtain ⟨n, os, rfl⟩ := hg.out; clear hg))
            generalize hV : Sort.grow _ _ = V
            have BV : Bl wr V := by rw [← hV]; exact (by repeat (first | with_reducible exact Bl.refl _ | with_reducible apply Bl.alloc | with_reducible apply Bl.grow | with_reducible apply Bl.sd | with_reducible apply Bl.drewN | with_reducible apply Bl.drew))
            have fcV := (Below.cell BV (p := ⟨fb, fo + s, none⟩) hfbz).trans fc
            have zfV : fb < V.heap.size := World.block_lt_of_cell? V _ fcV
            have HOV := Hd.mk (And.intro (OwP.bl HO.out.1 BV) HO.out.2)
            have HBV := Hd.mk (HB.out.trans BV)
            clear hV BV fc hfbz d0 d1 d2 zd hU HO HB HBw
            obtain ⟨a0, a1⟩ := hab
            generalize hR : fbit a 16 0 = R at *
            have HR0 := Hd.mk hR
            clear hR
            go_loopg [7, 9, 39] 16 (fun gg s7 s9 s39 wq => ∃ k : Nat, k ≤ 16 ∧ 16 - k ≤ gg ∧ s39 = .int .i64 k ∧ s7 = .slice A1 out.length c1 ∧ Hd (R = fbit a (16 - k) k) ∧ Hd (Bl V wq))
            case atStart => exact ⟨0, by omega, by omega, rfl, rfl, ⟨HR0.out.symm⟩, ⟨Bl.refl _⟩⟩
            case round =>
              obtain ⟨k, hk, hgk, rfl, rfl, HBt, HBq⟩ := hrel
              by_cases hkl : k < 16
              · have fcr := (Below.cell HBq.out (p := ⟨fb, fo + s, none⟩) zfV).trans fcV
                have zfr : fb < wr.heap.size := World.block_lt_of_cell? wr _ fcr
                have hk16 : (k : Int) < 16 := by omega
                have hk0 : (0 : Int) ≤ (k : Int) := by omega
                have hbit := bit_of k a0 a1
                have hbt := HBt.out
                rw [show 16 - k = (16 - (k + 1)) + 1 by omega] at hbt
                simp only [fbit] at hbt
                have HBt2 := Hd.mk hbt
                clear hbt
                generalize hqq : bitS a (k : Int) = q at *
                have HQQ := Hd.mk hqq
                clear hqq
                cases q with
                | true =>
                  have hRk : R = some k := by rw [HBt2.out, if_pos rfl]
                  have HTk2 := Hd.mk (HTk.out k hRk)
                  have hbz := HBV.out.size
                  have hbz2 := HBq.out.size
                  have hl2 := HOV.out.2
                  clear hRk
                  go_wp2_with (at_builtin; refine wpList_append_own_at _ rfl _ _ 58 rfl W.heap.size 55 i0 _ 2 16 Try.underlying58 hi hz0 hz1 hz2 rfl (by decide) _ _ _ rfl (own_below HOV.out.1 (HBq.out.trans (by repeat (first | with_reducible exact Bl.refl _ | with_reducible apply Bl.alloc | with_reducible apply Bl.grow | with_reducible apply Bl.sd | with_reducible apply Bl.drewN | with_reducible apply Bl.drew)))) ⟨wr.heap.size, 0, none⟩ 1 1 [.int .i64 s, .int .i64 k] rfl rfl (news_alloc _ _ _ _ rfl) (by simp [Value.oneCell']) (by simp only [maxLen]; omega) (by omega) (by simp [go_sem]; omega) ?_)
                  intro v1 w1 hown1 hgr1 _ _
                  have HO1 := Hd.mk hown1
                  have HG1 := Hd.mk (Bl.grown ((HBV.out.trans HBq.out).alloc _) hgr1 (fun q hq => (World.ownsRow.lt HOV.out.1 q hq).1))
                  clear hown1 hgr1
                  go_wp2
                  go_roundg (len.toNat - (s + 1))
                  case measure => omega
                  case rel =>
                    refine ⟨s + 1, out ++ [⟨s, k⟩], by omega, by omega, by go_num, ⟨?_, by simp; omega⟩, ⟨by rw [HFn2.out, HTk2.out, HM'.out]⟩, ⟨HG1.out.trans (by repeat (first | with_reducible exact Bl.refl _ | with_reducible apply Bl.alloc | with_reducible apply Bl.grow | with_reducible apply Bl.sd | with_reducible apply Bl.drewN | with_reducible apply Bl.drew))⟩⟩
                    have h := HO1.out
                    unfold OwP
                    rw [List.length_append, show psC (out ++ [(⟨s, k⟩ : Sp)]) = psC out ++ [.int .i64 s, .int .i64 k] by simp [psC, pC]]
                    exact h
                | false =>
                  go_wp2
                  go_roundg (16 - (k + 1))
                  case measure => omega
                  case rel => exact ⟨k + 1, by omega, by omega, by go_num, rfl, ⟨by rw [HBt2.out, if_neg (by decide)]⟩, ⟨HBq.out.trans (by repeat (first | with_reducible exact Bl.refl _ | with_reducible apply Bl.alloc | with_reducible apply Bl.grow | with_reducible apply Bl.sd | with_reducible apply Bl.drewN | with_reducible apply Bl.drew))⟩⟩
              · obtain rfl : k = 16 := by omega
                have e := HBt.out
                rw [Nat.sub_self] at e
                simp only [fbit] at e
                have HNo2 := Hd.mk (HNo.out e)
                clear e
                go_wp2
                go_roundg (len.toNat - (s + 1))
                case measure => omega
                case rel => exact ⟨s + 1, out, by omega, by omega, by go_num, ⟨OwP.bl HOV.out.1 (HBq.out.trans (by repeat (first | with_reducible exact Bl.refl _ | with_reducible apply Bl.alloc | with_reducible apply Bl.grow | with_reducible apply Bl.sd | with_reducible apply Bl.drewN | with_reducible apply Bl.drew))), by have := HOV.out.2; omega⟩, ⟨by rw [HFn2.out, HNo2.out, HM'.out]⟩, ⟨HBV.out.trans (HBq.out.trans (by repeat (first | with_reducible exact Bl.refl _ | with_reducible apply Bl.alloc | with_reducible apply Bl.grow | with_reducible apply Bl.sd | with_reducible apply Bl.drewN | with_reducible apply Bl.drew)))⟩⟩
    · obtain rfl : s = len.toNat := by omega
      have hltz : ¬ ((len.toNat : Int) < len) := by omega
      have e := HFn.out
      rw [Nat.sub_self] at e
      simp only [candF] at e
      subst e
      go_wp2
      go_ret
      exact ⟨_, rfl, OwP.lower (OwP.bl HO.out.1 (by repeat (first | with_reducible exact Bl.refl _ | with_reducible apply Bl.alloc | with_reducible apply Bl.grow | with_reducible apply Bl.sd | with_reducible apply Bl.drewN | with_reducible apply Bl.drew))) hws, HB0.out.trans (HB.out.trans (by repeat (first | with_reducible exact Bl.refl _ | with_reducible apply Bl.alloc | with_reducible apply Bl.grow | with_reducible apply Bl.sd | with_reducible apply Bl.drewN | with_reducible apply Bl.drew)))⟩
theorem tcand (nd len : Int) (A : Option Addr) (c : Nat) (l : List TC) (B : Option Addr) (cb : Nat) (f : List Int) (nn : Int) (w : World) (hr : Rd w A l) (hc : l.length ≤ c) (hf : RdI w B f) (hcb : f.length ≤ cb) :
    Calls Try.prog 33 #[.agg #[.int .i64 nd, .int .i64 len, .slice A l.length c], .slice B f.length cb, .int .i64 nn] w fun e w' => ∃ v, e = .returned v ∧ OwP w' w.heap.size v (candS nd len l f nn) ∧ Bl w w' := by
  by_cases h1 : checkT nd len l = 0
  · cases h2 : maskedS f len with
    | false => exact tcand_early nd len A c l B cb f nn w hr hc hf hcb (.inr h2)
    | true => exact tcand_main nd len A c l B cb f nn w hr hc hf hcb h1 h2
  · exact tcand_early nd len A c l B cb f nn w hr hc hf hcb (.inl h1)
end Go.Proofs.Ytcknakbjiklklaa.F
