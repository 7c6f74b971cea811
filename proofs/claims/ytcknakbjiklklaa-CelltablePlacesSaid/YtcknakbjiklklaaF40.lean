import Derived.Test.YtcknakbjiklklaaF39
import Derived.Test.YtcknakbjiklklaaF15
/- hopmeshref16.Candidates. -/
namespace Go.Proofs.Ytcknakbjiklklaa.F
open Go.RowKit Go.Sort Go.Proofs.Ytcknakbjiklklaa.B Go.Proofs.Ytcknakbjiklklaa.S
set_option linter.unusedVariables false
set_option linter.unusedSimpArgs false
theorem fits_in {nd len : Int} {l : List TC} {f : List Int} {s k : Nat} (h1 : checkT nd len l = 0) (h2 : maskedS f len = true) (hs : (s : Int) < len) (hk : k < 16) : fitsS nd len l f s k = (bitS (nth f s) k && !usedS l s) := by
  unfold fitsS; rw [decide_eq_true h1, h2, decide_eq_true (by omega), Int.toNat_natCast]; rfl
/-- The first place of a slot from k on. -/
def spotK (f : List Int) (l : List TC) (s k : Nat) : Option Nat := if usedS l s = true then none else fbit (nth f s) (16 - k) k
theorem spotK_zero (f : List Int) (l : List TC) (s : Nat) : spotK f l s 0 = spotF f l s := rfl
theorem spotK_yes {f : List Int} {l : List TC} {s k : Nat} (hk : k < 16) (h : (bitS (nth f s) k && !usedS l s) = true) : spotK f l s k = some k := by
  rw [Bool.and_eq_true, Bool.not_eq_true'] at h
  unfold spotK
  rw [if_neg (by rw [h.2]; decide), show 16 - k = (16 - (k + 1)) + 1 by omega]
  simp only [fbit]
  rw [if_pos h.1]
theorem spotK_no {f : List Int} {l : List TC} {s k : Nat} (hk : k < 16) (h : (bitS (nth f s) k && !usedS l s) = false) : spotK f l s k = spotK f l s (k + 1) := by
  unfold spotK
  by_cases hu : usedS l s = true
  · rw [if_pos hu, if_pos hu]
  · rw [if_neg hu, if_neg hu, show 16 - k = (16 - (k + 1)) + 1 by omega]
    simp only [fbit]
    rw [if_neg]
    intro hb
    rw [hb] at h
    simp at hu
    rw [hu] at h
    cases h
theorem spotK_end (f : List Int) (l : List TC) (s : Nat) : spotK f l s 16 = none := by unfold spotK; simp [fbit]
set_option maxHeartbeats 4000000 in
theorem xcand_early (nd len : Int) (A : Option Addr) (c : Nat) (l : List TC) (B : Option Addr) (cb : Nat) (f : List Int) (nn : Int) (w : World) (hr : Rd w A l) (hc : l.length ≤ c) (hf : RdI w B f) (hcb : f.length ≤ cb) (hh : checkT nd len l ≠ 0 ∨ maskedS f len = false) :
    Calls Try.prog 34 #[.agg #[.int .i64 nd, .int .i64 len, .slice A l.length c], .slice B f.length cb, .int .i64 nn] w fun e w' => ∃ v, e = .returned v ∧ OwP w' w.heap.size v (candS nd len l f nn) ∧ Bl w w' := by
  have hC : ∀ W, Gr w W → _ := fun W h => xcheck nd len A c l W (hr.gr h) hc
  have hM : ∀ W, Gr w W → _ := fun W h => qismask B cb f len W (RdI.gr hf h) hcb
  have hs : candS nd len l f nn = [] := by unfold candS; rw [if_pos hh]
  rw [hs]
  clear hr hf hs
  by_cases h1 : checkT nd len l = 0
  · rw [h1] at hC
    rw [hh.resolve_left (fun e => e h1)] at hM
    clear hh h1
    go_enter Try.func34, Try.ntmps34
    go_wp2_with (first | (go_at_call 14; (with_reducible refine (hC _ (by repeat (first | exact Gr.refl _ | with_reducible apply Gr.alloc | with_reducible apply Gr.grow | with_reducible apply Gr.drewN | with_reducible apply Gr.drew))).mono ?_); rintro e w' ⟨rfl, hg⟩; obtain ⟨n, os, rfl⟩ := hg.out; clear hg) | (go_at_call 66; (with_reducible refine (hM _ (by repeat (first | exact Gr.refl _ | with_reducible apply Gr.alloc | with_reducible apply Gr.grow | with_reducible apply Gr.drewN | with_reducible apply Gr.drew))).mono ?_); rintro e w' ⟨rfl, hg⟩; obtain ⟨n, os, rfl⟩ := hg.out; clear hg))
    go_ret
    exact ⟨_, rfl, OwP.nil _ _, (by repeat (first | exact Bl.refl _ | with_reducible apply Bl.alloc | with_reducible apply Bl.grow | with_reducible apply Bl.sd | with_reducible apply Bl.drewN | with_reducible apply Bl.drew))⟩
  · have h2 : (checkT nd len l != 0) = true := by simp [h1]
    generalize checkT nd len l = q at *
    clear hh h1
    go_enter Try.func34, Try.ntmps34
    go_wp2_with (first | (go_at_call 14; (with_reducible refine (hC _ (by repeat (first | exact Gr.refl _ | with_reducible apply Gr.alloc | with_reducible apply Gr.grow | with_reducible apply Gr.drewN | with_reducible apply Gr.drew))).mono ?_); rintro e w' ⟨rfl, hg⟩; obtain ⟨n, os, rfl⟩ := hg.out; clear hg))
    go_ret
    exact ⟨_, rfl, OwP.nil _ _, (by repeat (first | exact Bl.refl _ | with_reducible apply Bl.alloc | with_reducible apply Bl.grow | with_reducible apply Bl.sd | with_reducible apply Bl.drewN | with_reducible apply Bl.drew))⟩
set_option maxHeartbeats 4000000 in
set_option maxRecDepth 100000 in
theorem xcand_main (nd len : Int) (A : Option Addr) (c : Nat) (l : List TC) (B : Option Addr) (cb : Nat) (f : List Int) (nn : Int) (w : World) (hr : Rd w A l) (hc : l.length ≤ c) (hf : RdI w B f) (hcb : f.length ≤ cb) (h1 : checkT nd len l = 0) (h2 : maskedS f len = true) :
    Calls Try.prog 34 #[.agg #[.int .i64 nd, .int .i64 len, .slice A l.length c], .slice B f.length cb, .int .i64 nn] w fun e w' => ∃ v, e = .returned v ∧ OwP w' w.heap.size v (candS nd len l f nn) ∧ Bl w w' := by
  obtain ⟨i0, hi, hz0, hz1, hz2⟩ := info_of info55
  have hC : ∀ W, Gr w W → _ := fun W h => xcheck nd len A c l W (hr.gr h) hc
  have hM : ∀ W, Gr w W → _ := fun W h => qismask B cb f len W (RdI.gr hf h) hcb
  have hFt : ∀ (s k : Nat) W, Bl w W → _ := fun s k W h => xfits nd len A c l B cb f s k W (hr.bl h) hc (RdI.bl hf h) hcb
  obtain ⟨_, ⟨l0, l1⟩, _⟩ := checkT_ok h1
  have hs : candS nd len l f nn = candF f l nn len.toNat 0 [] := by unfold candS; rw [if_neg (by rw [h1, h2]; simp)]
  have hin : ∀ s k : Nat, (s : Int) < len → k < 16 → fitsS nd len l f s k = (bitS (nth f s) k && !usedS l s) := fun s k => fits_in h1 h2
  rw [hs]
  rw [h1] at hC
  rw [h2] at hM
  have HIn := Hd.mk hin
  have HFt := Hd.mk hFt
  clear hr hf hs h1 h2 hin hFt
  generalize hfin : candF f l nn len.toNat 0 [] = fin
  have HFin := Hd.mk hfin
  clear hfin
  go_enter Try.func34, Try.ntmps34
  go_upto_region 5 with (first | (go_at_call 14; (with_reducible refine (hC _ (by repeat (first | exact Gr.refl _ | with_reducible apply Gr.alloc | with_reducible apply Gr.grow | with_reducible apply Gr.drewN | with_reducible apply Gr.drew))).mono ?_); rintro e w' ⟨rfl, hg⟩; obtain ⟨n, os, rfl⟩ := hg.out; clear hg) | (go_at_call 66; (with_reducible refine (hM _ (by repeat (first | exact Gr.refl _ | with_reducible apply Gr.alloc | with_reducible apply Gr.grow | with_reducible apply Gr.drewN | with_reducible apply Gr.drew))).mono ?_); rintro e w' ⟨rfl, hg⟩; obtain ⟨n, os, rfl⟩ := hg.out; clear hg))
  generalize hW : Sort.grow _ _ = W
  have HWe := Hd.mk hW
  clear hW
  have H0 : Hd (T3 W w.heap.size nd len (.slice A l.length c)) := ⟨⟨by rw [← HWe.out]; simp [go_sem], by rw [← HWe.out]; go_simp, by rw [← HWe.out]; go_simp, by rw [← HWe.out]; go_simp, fun k => by rw [← HWe.out]; go_simp⟩⟩
  have HB0 : Hd (Bl w W) := ⟨by rw [← HWe.out]; exact (by repeat (first | exact Bl.refl _ | with_reducible apply Bl.alloc | with_reducible apply Bl.grow | with_reducible apply Bl.sd | with_reducible apply Bl.drewN | with_reducible apply Bl.drew))⟩
  have hws := HB0.out.size
  clear HWe hC hM
  go_loopg [7, 8, 9] len.toNat (fun gg s7 s8 s9 wr => ∃ (s : Nat) (out : List Sp), s ≤ len.toNat ∧ len.toNat - s ≤ gg ∧ s8 = .int .i64 s ∧ Hd (OwP wr W.heap.size s7 out ∧ out.length ≤ s) ∧ Hd (fin = candF f l nn (len.toNat - s) s out) ∧ Hd (Bl W wr))
  case atStart => exact ⟨0, [], Nat.zero_le _, by omega, rfl, ⟨OwP.nil _ _, Nat.le_refl _⟩, ⟨HFin.out.symm⟩, ⟨Bl.refl _⟩⟩
  case round =>
    obtain ⟨s, out, hs, hg, rfl, HO, HFn, HB⟩ := hrel
    obtain ⟨A1, c1, rfl, hc1, _⟩ := HO.out.1.rd
    obtain ⟨z0, d0, d1, d2, d3⟩ := H0.out.bl HB.out
    by_cases hlt : s < len.toNat
    · have hltz : (s : Int) < len := by omega
      obtain ⟨m, hm⟩ : ∃ m, len.toNat - s = m + 1 := ⟨len.toNat - s - 1, by omega⟩
      have hm' : len.toNat - (s + 1) = m := by omega
      have hfn := HFn.out
      rw [hm] at hfn
      have HFn2 := Hd.mk hfn
      have HM' := Hd.mk hm'
      clear hm hm' hfn
      by_cases hn : nn ≤ (out.length : Int)
      · go_wp2
        go_ret
        exact ⟨_, rfl, OwP.lower (by rw [HFn2.out, cand_stop hn]; exact OwP.bl HO.out.1 (by repeat (first | with_reducible exact Bl.refl _ | with_reducible apply Bl.alloc | with_reducible apply Bl.grow | with_reducible apply Bl.sd | with_reducible apply Bl.drewN | with_reducible apply Bl.drew))) hws, HB0.out.trans (HB.out.trans (by repeat (first | with_reducible exact Bl.refl _ | with_reducible apply Bl.alloc | with_reducible apply Bl.grow | with_reducible apply Bl.sd | with_reducible apply Bl.drewN | with_reducible apply Bl.drew)))⟩
      · have hst := cand_step (f := f) (l := l) (n := nn) (m := m) (s := s) (out := out) (by omega)
        rw [← spotK_zero] at hst
        have hn' : (out.length : Int) < nn := by omega
        generalize hR : spotK f l s 0 = R at *
        have HR0 := Hd.mk hR
        have HSt := Hd.mk hst
        clear hR hst
        go_upto_region 8 with fail
        generalize hwr0 : wr = V at *
        clear hwr0 d0 d1 d2 d3 z0
        go_loopg [7, 9] 16 (fun gg s7 s9 wq => ∃ k : Nat, k ≤ 16 ∧ 16 - k ≤ gg ∧ s9 = .int .i64 k ∧ s7 = .slice A1 out.length c1 ∧ Hd (R = spotK f l s k) ∧ Hd (Bl V wq))
        case atStart => exact ⟨0, by omega, by omega, rfl, rfl, ⟨HR0.out.symm⟩, ⟨Bl.refl _⟩⟩
        case round =>
          obtain ⟨k, hk, hgk, rfl, rfl, HBt, HBq⟩ := hrel
          obtain ⟨z0, d0, d1, d2, d3⟩ := H0.out.bl (HB.out.trans HBq.out)
          by_cases hkl : k < 16
          · have hk16 : (k : Int) < 16 := by omega
            have hft := HFt.out s k
            rw [HIn.out s k hltz hkl] at hft
            have hyes := spotK_yes (f := f) (l := l) (s := s) hkl
            have hno := spotK_no (f := f) (l := l) (s := s) hkl
            generalize (bitS (nth f s) (k : Int) && !usedS l (s : Int)) = q at *
            have HYes := Hd.mk hyes
            have HNo := Hd.mk hno
            clear hyes hno
            have hftw : ∀ Y, Gr wr Y → _ := fun Y h => hft Y (HB0.out.trans (HB.out.trans (HBq.out.trans h.bl)))
            clear hft
            cases q with
            | true =>
              have hRk : R = some k := by rw [HBt.out, HYes.out (by first | trivial | rfl)]
              have hst := HSt.out
              rw [hRk] at hst
              have HSt2 := Hd.mk hst
              have hbz := HB.out.size
              have hbz2 := HBq.out.size
              have hl2 := HO.out.2
              clear hRk hst
              go_wp2_with (first | (at_builtin; refine wpList_append_own_at _ rfl _ _ 58 rfl W.heap.size 55 i0 _ 2 16 Try.underlying58 hi hz0 hz1 hz2 rfl (by decide) _ _ _ rfl (own_below HO.out.1 (HBq.out.trans (by repeat (first | with_reducible exact Bl.refl _ | with_reducible apply Bl.alloc | with_reducible apply Bl.grow | with_reducible apply Bl.sd | with_reducible apply Bl.drewN | with_reducible apply Bl.drew)))) ⟨_, 0, none⟩ 1 1 [.int .i64 s, .int .i64 k] rfl rfl (news_alloc _ _ _ _ (by simp [go_sem])) (by simp [Value.oneCell']) (by simp only [maxLen]; omega) (by omega) (by simp [go_sem]; omega) ?_) | (go_at_call 31; (with_reducible refine (hftw _ (by repeat (first | exact Gr.refl _ | with_reducible apply Gr.alloc | with_reducible apply Gr.grow | with_reducible apply Gr.drewN | with_reducible apply Gr.drew))).mono ?_); rintro e w' ⟨rfl, hg⟩; obtain ⟨n, os, rfl⟩ := hg.out; clear hg))
              intro v1 w1 hown1 hgr1 _ _
              have HO1 := Hd.mk hown1
              have HG1 := Hd.mk (Bl.grown (HB.out.trans (HBq.out.trans (by repeat (first | with_reducible exact Bl.refl _ | with_reducible apply Bl.alloc | with_reducible apply Bl.grow | with_reducible apply Bl.sd | with_reducible apply Bl.drewN | with_reducible apply Bl.drew)))) hgr1 (fun q hq => (World.ownsRow.lt HO.out.1 q hq).1))
              clear hown1 hgr1
              go_wp2
              go_roundg (len.toNat - (s + 1))
              case measure => omega
              case rel =>
                refine ⟨s + 1, out ++ [⟨s, k⟩], by omega, by omega, by go_num, ⟨?_, by simp; omega⟩, ⟨by rw [HFn2.out, HSt2.out, HM'.out]⟩, ⟨HG1.out.trans (by repeat (first | with_reducible exact Bl.refl _ | with_reducible apply Bl.alloc | with_reducible apply Bl.grow | with_reducible apply Bl.sd | with_reducible apply Bl.drewN | with_reducible apply Bl.drew))⟩⟩
                have h := HO1.out
                unfold OwP
                rw [List.length_append, show psC (out ++ [(⟨s, k⟩ : Sp)]) = psC out ++ [.int .i64 s, .int .i64 k] by simp [psC, pC]]
                exact h
            | false =>
              go_wp2_with (first | (go_at_call 31; (with_reducible refine (hftw _ (by repeat (first | exact Gr.refl _ | with_reducible apply Gr.alloc | with_reducible apply Gr.grow | with_reducible apply Gr.drewN | with_reducible apply Gr.drew))).mono ?_); rintro e w' ⟨rfl, hg⟩; obtain ⟨n, os, rfl⟩ := hg.out; clear hg))
              go_roundg (16 - (k + 1))
              case measure => omega
              case rel => exact ⟨k + 1, by omega, by omega, by go_num, rfl, ⟨by rw [HBt.out, HNo.out (by first | trivial | rfl)]⟩, ⟨HBq.out.trans (by repeat (first | with_reducible exact Bl.refl _ | with_reducible apply Bl.alloc | with_reducible apply Bl.grow | with_reducible apply Bl.sd | with_reducible apply Bl.drewN | with_reducible apply Bl.drew))⟩⟩
          · obtain rfl : k = 16 := by omega
            have e := HBt.out
            rw [spotK_end] at e
            have hst := HSt.out
            rw [e] at hst
            simp only [List.append_nil] at hst
            have HSt2 := Hd.mk hst
            clear e hst
            go_wp2
            go_roundg (len.toNat - (s + 1))
            case measure => omega
            case rel => exact ⟨s + 1, out, by omega, by omega, by go_num, ⟨OwP.bl HO.out.1 (HBq.out.trans (by repeat (first | with_reducible exact Bl.refl _ | with_reducible apply Bl.alloc | with_reducible apply Bl.grow | with_reducible apply Bl.sd | with_reducible apply Bl.drewN | with_reducible apply Bl.drew))), by have := HO.out.2; omega⟩, ⟨by rw [HFn2.out, HSt2.out, HM'.out]⟩, ⟨HB.out.trans (HBq.out.trans (by repeat (first | with_reducible exact Bl.refl _ | with_reducible apply Bl.alloc | with_reducible apply Bl.grow | with_reducible apply Bl.sd | with_reducible apply Bl.drewN | with_reducible apply Bl.drew)))⟩⟩
    · obtain rfl : s = len.toNat := by omega
      have hltz : ¬ ((len.toNat : Int) < len) := by omega
      have e := HFn.out
      rw [Nat.sub_self] at e
      simp only [candF] at e
      subst e
      go_wp2
      go_ret
      exact ⟨_, rfl, OwP.lower (OwP.bl HO.out.1 (by repeat (first | with_reducible exact Bl.refl _ | with_reducible apply Bl.alloc | with_reducible apply Bl.grow | with_reducible apply Bl.sd | with_reducible apply Bl.drewN | with_reducible apply Bl.drew))) hws, HB0.out.trans (HB.out.trans (by repeat (first | with_reducible exact Bl.refl _ | with_reducible apply Bl.alloc | with_reducible apply Bl.grow | with_reducible apply Bl.sd | with_reducible apply Bl.drewN | with_reducible apply Bl.drew)))⟩
theorem xcand (nd len : Int) (A : Option Addr) (c : Nat) (l : List TC) (B : Option Addr) (cb : Nat) (f : List Int) (nn : Int) (w : World) (hr : Rd w A l) (hc : l.length ≤ c) (hf : RdI w B f) (hcb : f.length ≤ cb) :
    Calls Try.prog 34 #[.agg #[.int .i64 nd, .int .i64 len, .slice A l.length c], .slice B f.length cb, .int .i64 nn] w fun e w' => ∃ v, e = .returned v ∧ OwP w' w.heap.size v (candS nd len l f nn) ∧ Bl w w' := by
  by_cases h1 : checkT nd len l = 0
  · cases h2 : maskedS f len with
    | false => exact xcand_early nd len A c l B cb f nn w hr hc hf hcb (.inr h2)
    | true => exact xcand_main nd len A c l B cb f nn w hr hc hf hcb h1 h2
  · exact xcand_early nd len A c l B cb f nn w hr hc hf hcb (.inl h1)
end Go.Proofs.Ytcknakbjiklklaa.F
