import Derived.Test.YtcknakbjiklklaaF27
import Derived.Test.YtcknakbjiklklaaF20
import Derived.Test.YtcknakbjiklklaaH1
import Derived.Test.YtcknakbjiklklaaS12
/- Fits, twice; IsMask. -/
namespace Go.Proofs.Ytcknakbjiklklaa.F
open Go.RowKit Go.Sort Go.Proofs.Ytcknakbjiklklaa.B Go.Proofs.Ytcknakbjiklklaa.S
set_option linter.unusedVariables false
set_option linter.unusedSimpArgs false
set_option maxHeartbeats 4000000 in
set_option maxRecDepth 100000 in
theorem tfits (nd len : Int) (A : Option Addr) (c : Nat) (l : List TC) (B : Option Addr) (cb : Nat) (f : List Int) (sl off : Int) (w : World) (hr : Rd w A l) (hc : l.length ≤ c) (hf : RdI w B f) (hcb : f.length ≤ cb) :
    Calls Try.prog 30 #[.agg #[.int .i64 nd, .int .i64 len, .slice A l.length c], .slice B f.length cb, .agg #[.int .i64 sl, .int .i64 off]] w fun e w' => e = .returned (.bool (fitsS nd len l f sl off)) ∧ Gr w w' := by
  have hm := mixed
  have hC : ∀ W, Gr w W → _ := fun W h => tcheck nd len A c l W (hr.gr h) hc
  have hM : ∀ W, Gr w W → _ := fun W h => fmasked B cb f len W (RdI.gr hf h) hcb
  by_cases h1 : checkT nd len l = 0
  · rw [h1] at hC
    cases h2 : maskedS f len with
    | true =>
      rw [h2] at hM
      by_cases h3 : (0 ≤ sl ∧ sl < len) ∧ 0 ≤ off ∧ off < 16
      · have hs : fitsS nd len l f sl off = (bitS (nth f sl.toNat) off && !usedS l sl) := by unfold fitsS; rw [decide_eq_true h1, h2, decide_eq_true h3]; rfl
        rw [hs]
        obtain ⟨⟨s0, s1⟩, o0, o1⟩ := h3
        obtain ⟨hfl, hfb⟩ := masked_ok h2
        obtain ⟨s, rfl⟩ := Int.eq_ofNat_of_zero_le s0
        obtain ⟨k, rfl⟩ := Int.eq_ofNat_of_zero_le o0
        have hsl : s < f.length := by omega
        obtain ⟨fb, fo, rfl, hfbz, hfc⟩ := hf.2 (by omega)
        have fc := hfc s hsl
        obtain ⟨a0, a1⟩ := hfb s hsl
        have hU : ∀ X, Gr w X → _ := fun X h => tused nd len A c l (s : Int) X (hr.gr h) hc
        rw [Int.toNat_natCast]
        have hbit := bit_of k a0 a1
        have g1 : ¬ (s : Int) < 0 := by omega
        have g2 : ¬ len ≤ (s : Int) := by omega
        have g3 : ¬ (k : Int) < 0 := by omega
        have g4 : ¬ (16 : Int) ≤ (k : Int) := by omega
        have hsz : (s : Int) < (f.length : Int) := by omega
        clear hr hf hs h1 h2 hfl hfb hfc
        generalize nth f s = a at *
        generalize bitS a (k : Int) = bq at *
        generalize usedS l (s : Int) = uq at *
        go_enter Try.func30, Try.ntmps30
        go_upto_region 3 with (first | (go_at_call 13; (with_reducible refine (hC _ (by repeat (first | exact Gr.refl _ | with_reducible apply Gr.alloc | with_reducible apply Gr.grow | with_reducible apply Gr.drewN | with_reducible apply Gr.drew))).mono ?_); rintro e w' ⟨rfl, hg⟩; obtain ⟨n, os, rfl⟩ := hg.out; clear hg) | (go_at_call 64; (with_reducible refine (hM _ (by repeat (first | exact Gr.refl _ | with_reducible apply Gr.alloc | with_reducible apply Gr.grow | with_reducible apply Gr.drewN | with_reducible apply Gr.drew))).mono ?_); rintro e w' ⟨rfl, hg⟩; obtain ⟨n, os, rfl⟩ := hg.out; clear hg))
        generalize hX : Sort.grow _ _ = X
        have HXe := Hd.mk hX
        clear hX
        have G0 : Gr w X := by rw [← HXe.out]; exact (by repeat (first | exact Gr.refl _ | with_reducible apply Gr.alloc | with_reducible apply Gr.grow | with_reducible apply Gr.drewN | with_reducible apply Gr.drew))
        have t0 : T3 X w.heap.size nd len (.slice A l.length c) := ⟨by rw [← HXe.out]; simp [go_sem], by rw [← HXe.out]; go_simp, by rw [← HXe.out]; go_simp, by rw [← HXe.out]; go_simp, fun k => by rw [← HXe.out]; go_simp⟩
        have t1 : T2 X (w.heap.size + 1) s k := ⟨by rw [← HXe.out]; simp [go_sem], by rw [← HXe.out]; go_simp, by rw [← HXe.out]; go_simp⟩
        have hUX := fun Y (h : Gr X Y) => hU Y (G0.trans h)
        have fcX := (G0.below.cell (p := ⟨fb, fo + s, none⟩) hfbz).trans fc
        have zfX : fb < X.heap.size := World.block_lt_of_cell? X _ fcX
        have HG := Hd.mk G0
        clear HXe G0 hU hC hM fc
        obtain ⟨z0, b0, b1, b2, b3⟩ := t0
        obtain ⟨z1, d0, d1⟩ := t1
        have hkz : (0 : Int) ≤ (k : Int) := by omega
        have hsz0 : (0 : Int) ≤ (s : Int) := by omega
        cases bq with
        | true =>
          go_quiet_grown (first | (go_at_call 65; with_reducible exact quiet_grown rfl (hUX _ (by repeat (first | exact Gr.refl _ | with_reducible apply Gr.alloc | with_reducible apply Gr.grow | with_reducible apply Gr.drewN | with_reducible apply Gr.drew)))))
          go_wp2
          go_ret
          exact ⟨ret_bool (by simp), HG.out.trans (by repeat (first | exact Gr.refl _ | with_reducible apply Gr.alloc | with_reducible apply Gr.grow | with_reducible apply Gr.drewN | with_reducible apply Gr.drew))⟩
        | false =>
          go_quiet (fail)
          go_wp2
          go_ret
          exact ⟨ret_bool (by simp), HG.out.trans (by repeat (first | exact Gr.refl _ | with_reducible apply Gr.alloc | with_reducible apply Gr.grow | with_reducible apply Gr.drewN | with_reducible apply Gr.drew))⟩
      · have hs : fitsS nd len l f sl off = false := by unfold fitsS; rw [decide_eq_true h1, h2, decide_eq_false h3]; rfl
        rw [hs]
        have hq : sl < 0 ∨ ¬ sl < 0 ∧ (len ≤ sl ∨ ¬ len ≤ sl ∧ (off < 0 ∨ ¬ off < 0 ∧ 16 ≤ off)) := by omega
        clear hr hf hs h1 h2 h3
        rcases hq with h | ⟨h, h' | ⟨h', h'' | ⟨h'', h'''⟩⟩⟩
        all_goals
          go_enter Try.func30, Try.ntmps30
          go_wp2_with (first | (go_at_call 13; (with_reducible refine (hC _ (by repeat (first | exact Gr.refl _ | with_reducible apply Gr.alloc | with_reducible apply Gr.grow | with_reducible apply Gr.drewN | with_reducible apply Gr.drew))).mono ?_); rintro e w' ⟨rfl, hg⟩; obtain ⟨n, os, rfl⟩ := hg.out; clear hg) | (go_at_call 64; (with_reducible refine (hM _ (by repeat (first | exact Gr.refl _ | with_reducible apply Gr.alloc | with_reducible apply Gr.grow | with_reducible apply Gr.drewN | with_reducible apply Gr.drew))).mono ?_); rintro e w' ⟨rfl, hg⟩; obtain ⟨n, os, rfl⟩ := hg.out; clear hg))
          go_ret
          exact ⟨rfl, (by repeat (first | exact Gr.refl _ | with_reducible apply Gr.alloc | with_reducible apply Gr.grow | with_reducible apply Gr.drewN | with_reducible apply Gr.drew))⟩
    | false =>
      rw [h2] at hM
      have hs : fitsS nd len l f sl off = false := by unfold fitsS; rw [decide_eq_true h1, h2]; rfl
      rw [hs]
      clear hr hf hs h1 h2
      go_enter Try.func30, Try.ntmps30
      go_wp2_with (first | (go_at_call 13; (with_reducible refine (hC _ (by repeat (first | exact Gr.refl _ | with_reducible apply Gr.alloc | with_reducible apply Gr.grow | with_reducible apply Gr.drewN | with_reducible apply Gr.drew))).mono ?_); rintro e w' ⟨rfl, hg⟩; obtain ⟨n, os, rfl⟩ := hg.out; clear hg) | (go_at_call 64; (with_reducible refine (hM _ (by repeat (first | exact Gr.refl _ | with_reducible apply Gr.alloc | with_reducible apply Gr.grow | with_reducible apply Gr.drewN | with_reducible apply Gr.drew))).mono ?_); rintro e w' ⟨rfl, hg⟩; obtain ⟨n, os, rfl⟩ := hg.out; clear hg))
      go_ret
      exact ⟨rfl, (by repeat (first | exact Gr.refl _ | with_reducible apply Gr.alloc | with_reducible apply Gr.grow | with_reducible apply Gr.drewN | with_reducible apply Gr.drew))⟩
  · have hs : fitsS nd len l f sl off = false := by unfold fitsS; rw [decide_eq_false h1]; rfl
    rw [hs]
    clear hr hf hs
    generalize checkT nd len l = q at *
    have h2' : (q != 0) = true := by simp [h1]
    go_enter Try.func30, Try.ntmps30
    go_wp2_with (first | (go_at_call 13; (with_reducible refine (hC _ (by repeat (first | exact Gr.refl _ | with_reducible apply Gr.alloc | with_reducible apply Gr.grow | with_reducible apply Gr.drewN | with_reducible apply Gr.drew))).mono ?_); rintro e w' ⟨rfl, hg⟩; obtain ⟨n, os, rfl⟩ := hg.out; clear hg))
    go_ret
    exact ⟨rfl, (by repeat (first | exact Gr.refl _ | with_reducible apply Gr.alloc | with_reducible apply Gr.grow | with_reducible apply Gr.drewN | with_reducible apply Gr.drew))⟩
set_option maxHeartbeats 4000000 in
set_option maxRecDepth 100000 in
theorem qismask (B : Option Addr) (cb : Nat) (f : List Int) (len : Int) (w : World) (hf : RdI w B f) (hcb : f.length ≤ cb) :
    Calls Try.prog 66 #[.slice B f.length cb, .int .i64 len] w fun e w' => e = .returned (.bool (maskedS f len)) ∧ Gr w w' := by
  have hm := mixed
  have hfl := hf.1
  have HF := Hd.mk hf
  clear hf
  by_cases h : (f.length : Int) = len
  · have hb : ((f.length : Int) != len) = false := by simp [h]
    have hs : maskedS f len = !decide (0 ≤ idxF badM f 0) := by unfold maskedS; rw [decide_eq_true h, ← hasF_any]; rfl
    rw [hs]
    generalize hres : idxF badM f 0 = res
    have HRes := Hd.mk hres
    clear hres hs h
    have hP : ∀ W, Calls Try.prog 54 #[.int .i64 16] W fun e w' => e = .returned (.int .i64 65536) ∧ Gr W w' := fun W => (qpower 16 (by omega) (by omega) W).mono fun e w' ⟨a, b⟩ => ⟨a, by subst b; exact Gr.refl _⟩
    go_enter Try.func66, Try.ntmps66
    go_wp2
    go_loopg [5] f.length (fun gg s5 wr => ∃ k : Nat, k ≤ f.length ∧ f.length - k ≤ gg ∧ s5 = .int .i64 k ∧ Hd (Gr w wr) ∧ Hd (res = idxF badM (f.drop k) k))
    case atStart => exact ⟨0, Nat.zero_le _, by omega, rfl, ⟨Gr.refl w⟩, ⟨HRes.out.symm⟩⟩
    case round =>
      obtain ⟨k, hk, hg, rfl, GW, CF⟩ := hrel
      by_cases hlt : k < f.length
      · obtain ⟨fb, fo, rfl, hfbz, hfc⟩ := (RdI.gr HF.out GW.out).2 (by omega)
        have fc := hfc k hlt
        have hltz : (k : Int) < (f.length : Int) := by omega
        have hkz : (0 : Int) ≤ (k : Int) := by omega
        have hyes := idxF_yes (p := badM) hlt
        have hno := idxF_no (p := badM) hlt
        clear hfc
        generalize nth f k = a at *
        have HYes := Hd.mk hyes
        have HNo := Hd.mk hno
        clear hyes hno
        by_cases ha : a < 0
        · have hd1 : decide (a < 0) = true := decide_eq_true ha
          have hbad : badM a = true := by unfold badM; simp [ha]
          have HBad := Hd.mk hbad
          clear hbad
          go_upto_region 6 with fail
          go_quiet (fail)
          go_wp2
          go_ret
          exact ⟨ret_bool (by rw [CF.out, HYes.out HBad.out, decide_eq_true (by omega)]; rfl), GW.out.trans (by repeat (first | exact Gr.refl _ | with_reducible apply Gr.alloc | with_reducible apply Gr.grow | with_reducible apply Gr.drewN | with_reducible apply Gr.drew))⟩
        · have hd1 : decide (a < 0) = false := decide_eq_false ha
          by_cases ha2 : 65536 ≤ a
          · have hbad : badM a = true := by unfold badM; simp [ha2]
            have HBad := Hd.mk hbad
            clear hbad
            go_upto_region 6 with fail
            go_quiet_grown (first | (go_at_call 54; with_reducible exact quiet_grown rfl (hP _)))
            go_wp2
            go_ret
            exact ⟨ret_bool (by rw [CF.out, HYes.out HBad.out, decide_eq_true (by omega)]; rfl), GW.out.trans (by repeat (first | exact Gr.refl _ | with_reducible apply Gr.alloc | with_reducible apply Gr.grow | with_reducible apply Gr.drewN | with_reducible apply Gr.drew))⟩
          · have hbad : badM a = false := by unfold badM; simp; omega
            have HBad := Hd.mk hbad
            clear hbad
            go_upto_region 6 with fail
            go_quiet_grown (first | (go_at_call 54; with_reducible exact quiet_grown rfl (hP _)))
            go_wp2
            go_roundg (f.length - (k + 1))
            case measure => omega
            case rel => exact ⟨k + 1, by omega, by omega, by go_num, ⟨GW.out.trans (by repeat (first | exact Gr.refl _ | with_reducible apply Gr.alloc | with_reducible apply Gr.grow | with_reducible apply Gr.drewN | with_reducible apply Gr.drew))⟩, ⟨by rw [CF.out, HNo.out HBad.out]⟩⟩
      · obtain rfl : k = f.length := by omega
        have hltz : ¬ ((f.length : Int) < (f.length : Int)) := by omega
        go_wp2
        go_ret
        exact ⟨ret_bool (by rw [CF.out, idxF_end, decide_eq_false (by omega)]; rfl), GW.out.trans (by repeat (first | exact Gr.refl _ | with_reducible apply Gr.alloc | with_reducible apply Gr.grow | with_reducible apply Gr.drewN | with_reducible apply Gr.drew))⟩
  · have hb : ((f.length : Int) != len) = true := by simp [h]
    have hs : maskedS f len = false := by unfold maskedS; rw [decide_eq_false h]; rfl
    rw [hs]
    clear hs h
    go_enter Try.func66, Try.ntmps66
    go_wp2
    go_ret
    exact ⟨rfl, (by repeat (first | exact Gr.refl _ | with_reducible apply Gr.alloc | with_reducible apply Gr.grow | with_reducible apply Gr.drewN | with_reducible apply Gr.drew))⟩
end Go.Proofs.Ytcknakbjiklklaa.F
