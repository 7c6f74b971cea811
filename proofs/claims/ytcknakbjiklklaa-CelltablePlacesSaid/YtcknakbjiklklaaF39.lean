import Derived.Test.YtcknakbjiklklaaF38
/- hopmeshref16.Fits. -/
namespace Go.Proofs.Ytcknakbjiklklaa.F
open Go.RowKit Go.Sort Go.Proofs.Ytcknakbjiklklaa.B Go.Proofs.Ytcknakbjiklklaa.S
set_option linter.unusedVariables false
set_option linter.unusedSimpArgs false
theorem qbitP (n a : Int) (hn : 0 ≤ n) (hn1 : n < 65536) (h0 : 0 ≤ a) (h1 : a ≤ 16) (w : World) : Calls Try.prog 55 #[.int .i64 n, .int .i64 a] w fun e w' => e = .returned (.bool (bitS n a)) ∧ Gr w w' :=
  (qbit n a hn hn1 h0 h1 w).mono fun e w' ⟨a, b⟩ => ⟨a, by subst b; exact Gr.refl _⟩
set_option maxHeartbeats 4000000 in
set_option maxRecDepth 100000 in
theorem xfits (nd len : Int) (A : Option Addr) (c : Nat) (l : List TC) (B : Option Addr) (cb : Nat) (f : List Int) (sl off : Int) (w : World) (hr : Rd w A l) (hc : l.length ≤ c) (hf : RdI w B f) (hcb : f.length ≤ cb) :
    Calls Try.prog 31 #[.agg #[.int .i64 nd, .int .i64 len, .slice A l.length c], .slice B f.length cb, .agg #[.int .i64 sl, .int .i64 off]] w fun e w' => e = .returned (.bool (fitsS nd len l f sl off)) ∧ Gr w w' := by
  have hm := mixed
  have hl := hr.1
  have hC : ∀ W, Gr w W → _ := fun W h => xcheck nd len A c l W (hr.gr h) hc
  have hM : ∀ W, Gr w W → _ := fun W h => qismask B cb f len W (RdI.gr hf h) hcb
  by_cases h1 : checkT nd len l = 0
  · rw [h1] at hC
    cases h2 : maskedS f len with
    | true =>
      rw [h2] at hM
      by_cases h3 : (0 ≤ sl ∧ sl < len) ∧ 0 ≤ off ∧ off < 16
      · have hs : fitsS nd len l f sl off = (bitS (nth f sl.toNat) off && !usedS l sl) := by unfold fitsS; rw [decide_eq_true h1, h2, decide_eq_true h3]; rfl
        rw [hs]
        obtain ⟨⟨s0, s1⟩, o0, o1⟩ := h3
        obtain ⟨hfl, hfb⟩ := masked_ok h2
        obtain ⟨s, rfl⟩ := Int.eq_ofNat_of_zero_le s0
        obtain ⟨k, rfl⟩ := Int.eq_ofNat_of_zero_le o0
        have hsl : s < f.length := by omega
        obtain ⟨fb, fo, rfl, hfbz, hfc⟩ := hf.2 (by omega)
        have fc := hfc s hsl
        obtain ⟨a0, a1⟩ := hfb s hsl
        rw [Int.toNat_natCast]
        have hbit : ∀ W, _ := fun W => qbitP (nth f s) (k : Int) a0 a1 o0 (by omega) W
        have g1 : ¬ (s : Int) < 0 := by omega
        have g2 : ¬ len ≤ (s : Int) := by omega
        have g3 : ¬ (k : Int) < 0 := by omega
        have g4 : ¬ (16 : Int) ≤ (k : Int) := by omega
        have hsz : (s : Int) < (f.length : Int) := by omega
        have hus : usedS l (s : Int) = decide (0 ≤ idxF (fun x : TC => x.sl == (s : Int)) l 0) := by unfold usedS; rw [← hasF_any]; rfl
        rw [hus]
        generalize hres : idxF (fun x : TC => x.sl == (s : Int)) l 0 = res
        have HRes := Hd.mk hres
        have HR := Hd.mk hr
        clear hr hf hs h1 h2 hfl hfb hfc hus hres
        generalize nth f s = a at *
        generalize bitS a (k : Int) = bq at *
        go_enter Try.func31, Try.ntmps31
        go_upto_region 4 with (first | (go_at_call 14; (with_reducible refine (hC _ (by repeat (first | exact Gr.refl _ | with_reducible apply Gr.alloc | with_reducible apply Gr.grow | with_reducible apply Gr.drewN | with_reducible apply Gr.drew))).mono ?_); rintro e w' ⟨rfl, hg⟩; obtain ⟨n, os, rfl⟩ := hg.out; clear hg) | (go_at_call 66; (with_reducible refine (hM _ (by repeat (first | exact Gr.refl _ | with_reducible apply Gr.alloc | with_reducible apply Gr.grow | with_reducible apply Gr.drewN | with_reducible apply Gr.drew))).mono ?_); rintro e w' ⟨rfl, hg⟩; obtain ⟨n, os, rfl⟩ := hg.out; clear hg))
        generalize hX : Sort.grow _ _ = X
        have HXe := Hd.mk hX
        clear hX
        have G0 : Gr w X := by rw [← HXe.out]; exact (by repeat (first | exact Gr.refl _ | with_reducible apply Gr.alloc | with_reducible apply Gr.grow | with_reducible apply Gr.drewN | with_reducible apply Gr.drew))
        have H0 : Hd (T3 X w.heap.size nd len (.slice A l.length c)) := ⟨⟨by rw [← HXe.out]; simp [go_sem], by rw [← HXe.out]; go_simp, by rw [← HXe.out]; go_simp, by rw [← HXe.out]; go_simp, fun k => by rw [← HXe.out]; go_simp⟩⟩
        have H1 : Hd (T2 X (w.heap.size + 1) s k) := ⟨⟨by rw [← HXe.out]; simp [go_sem], by rw [← HXe.out]; go_simp, by rw [← HXe.out]; go_simp⟩⟩
        have fcX := (G0.below.cell (p := ⟨fb, fo + s, none⟩) hfbz).trans fc
        have zfX : fb < X.heap.size := World.block_lt_of_cell? X _ fcX
        have HG := Hd.mk G0
        have HR2 := Hd.mk (HR.out.gr G0)
        clear HXe G0 hC hM fc hfbz HR
        have hkz : (0 : Int) ≤ (k : Int) := by omega
        have hsz0 : (0 : Int) ≤ (s : Int) := by omega
        go_loopg [7] l.length (fun gg s7 wr => ∃ j : Nat, j ≤ l.length ∧ l.length - j ≤ gg ∧ s7 = .int .i64 j ∧ Hd (Gr X wr) ∧ Hd (res = idxF (fun x : TC => x.sl == (s : Int)) (l.drop j) j))
        case atStart => exact ⟨0, Nat.zero_le _, by omega, rfl, ⟨Gr.refl _⟩, ⟨HRes.out.symm⟩⟩
        case round =>
          obtain ⟨j, hj, hg, rfl, GW, CF⟩ := hrel
          obtain ⟨z0, b0, b1, b2, b3⟩ := H0.out.bl GW.out.bl
          obtain ⟨z1, d0, d1⟩ := H1.out.bl GW.out.bl
          have fcr := (Below.cell GW.out.bl (p := ⟨fb, fo + s, none⟩) zfX).trans fcX
          have zfr : fb < wr.heap.size := World.block_lt_of_cell? wr _ fcr
          by_cases hlt : j < l.length
          · obtain ⟨b, of, rfl, hb, hcell⟩ := (HR2.out.gr GW.out).2 (by omega)
            obtain ⟨k0, k1, k2, k3, k4, k5⟩ := hcell j hlt
            have hltz : (j : Int) < (l.length : Int) := by omega
            have hjz : (0 : Int) ≤ (j : Int) := by omega
            have hyes := idxF_yes (p := fun x : TC => x.sl == (s : Int)) hlt
            have hno := idxF_no (p := fun x : TC => x.sl == (s : Int)) hlt
            clear hcell
            generalize nth l j = x at *
            obtain ⟨x0, x1, x2, x3, x4, x5⟩ := x
            dsimp only at *
            have HYes := Hd.mk hyes
            have HNo := Hd.mk hno
            clear hyes hno
            cases hq : (x0 == (s : Int)) with
            | true =>
              have HQ := Hd.mk hq
              go_upto_region 6 with fail
              go_quiet (fail)
              go_wp2
              go_ret
              exact ⟨ret_bool (by rw [CF.out, HYes.out HQ.out, decide_eq_true (by omega)]; simp), HG.out.trans (GW.out.trans (by repeat (first | exact Gr.refl _ | with_reducible apply Gr.alloc | with_reducible apply Gr.grow | with_reducible apply Gr.drewN | with_reducible apply Gr.drew)))⟩
            | false =>
              have HQ := Hd.mk hq
              go_upto_region 6 with fail
              go_quiet (fail)
              go_wp2
              go_roundg (l.length - (j + 1))
              case measure => omega
              case rel => exact ⟨j + 1, by omega, by omega, by go_num, ⟨GW.out.trans (by repeat (first | exact Gr.refl _ | with_reducible apply Gr.alloc | with_reducible apply Gr.grow | with_reducible apply Gr.drewN | with_reducible apply Gr.drew))⟩, ⟨by rw [CF.out, HNo.out HQ.out]⟩⟩
          · obtain rfl : j = l.length := by omega
            have hltz : ¬ ((l.length : Int) < (l.length : Int)) := by omega
            go_upto_region 8 with fail
            go_quiet_grown (first | (go_at_call 55; with_reducible exact quiet_grown rfl (hbit _)))
            go_wp2
            go_ret
            exact ⟨ret_bool (by rw [CF.out, idxF_end, decide_eq_false (by omega)]; simp), HG.out.trans (GW.out.trans (by repeat (first | exact Gr.refl _ | with_reducible apply Gr.alloc | with_reducible apply Gr.grow | with_reducible apply Gr.drewN | with_reducible apply Gr.drew)))⟩
      · have hs : fitsS nd len l f sl off = false := by unfold fitsS; rw [decide_eq_true h1, h2, decide_eq_false h3]; rfl
        rw [hs]
        have hq : sl < 0 ∨ ¬ sl < 0 ∧ (len ≤ sl ∨ ¬ len ≤ sl ∧ (off < 0 ∨ ¬ off < 0 ∧ 16 ≤ off)) := by omega
        clear hr hf hs h1 h2 h3
        rcases hq with h | ⟨h, h' | ⟨h', h'' | ⟨h'', h'''⟩⟩⟩
        all_goals
          go_enter Try.func31, Try.ntmps31
          go_wp2_with (first | (go_at_call 14; (with_reducible refine (hC _ (by repeat (first | exact Gr.refl _ | with_reducible apply Gr.alloc | with_reducible apply Gr.grow | with_reducible apply Gr.drewN | with_reducible apply Gr.drew))).mono ?_); rintro e w' ⟨rfl, hg⟩; obtain ⟨n, os, rfl⟩ := hg.out; clear hg) | (go_at_call 66; (with_reducible refine (hM _ (by repeat (first | exact Gr.refl _ | with_reducible apply Gr.alloc | with_reducible apply Gr.grow | with_reducible apply Gr.drewN | with_reducible apply Gr.drew))).mono ?_); rintro e w' ⟨rfl, hg⟩; obtain ⟨n, os, rfl⟩ := hg.out; clear hg))
          go_ret
          exact ⟨rfl, (by repeat (first | exact Gr.refl _ | with_reducible apply Gr.alloc | with_reducible apply Gr.grow | with_reducible apply Gr.drewN | with_reducible apply Gr.drew))⟩
    | false =>
      rw [h2] at hM
      have hs : fitsS nd len l f sl off = false := by unfold fitsS; rw [decide_eq_true h1, h2]; rfl
      rw [hs]
      clear hr hf hs h1 h2
      go_enter Try.func31, Try.ntmps31
      go_wp2_with (first | (go_at_call 14; (with_reducible refine (hC _ (by repeat (first | exact Gr.refl _ | with_reducible apply Gr.alloc | with_reducible apply Gr.grow | with_reducible apply Gr.drewN | with_reducible apply Gr.drew))).mono ?_); rintro e w' ⟨rfl, hg⟩; obtain ⟨n, os, rfl⟩ := hg.out; clear hg) | (go_at_call 66; (with_reducible refine (hM _ (by repeat (first | exact Gr.refl _ | with_reducible apply Gr.alloc | with_reducible apply Gr.grow | with_reducible apply Gr.drewN | with_reducible apply Gr.drew))).mono ?_); rintro e w' ⟨rfl, hg⟩; obtain ⟨n, os, rfl⟩ := hg.out; clear hg))
      go_ret
      exact ⟨rfl, (by repeat (first | exact Gr.refl _ | with_reducible apply Gr.alloc | with_reducible apply Gr.grow | with_reducible apply Gr.drewN | with_reducible apply Gr.drew))⟩
  · have hs : fitsS nd len l f sl off = false := by unfold fitsS; rw [decide_eq_false h1]; rfl
    rw [hs]
    clear hr hf hs
    generalize checkT nd len l = q at *
    have h2' : (q != 0) = true := by simp [h1]
    go_enter Try.func31, Try.ntmps31
    go_wp2_with (first | (go_at_call 14; (with_reducible refine (hC _ (by repeat (first | exact Gr.refl _ | with_reducible apply Gr.alloc | with_reducible apply Gr.grow | with_reducible apply Gr.drewN | with_reducible apply Gr.drew))).mono ?_); rintro e w' ⟨rfl, hg⟩; obtain ⟨n, os, rfl⟩ := hg.out; clear hg))
    go_ret
    exact ⟨rfl, (by repeat (first | exact Gr.refl _ | with_reducible apply Gr.alloc | with_reducible apply Gr.grow | with_reducible apply Gr.drewN | with_reducible apply Gr.drew))⟩
end Go.Proofs.Ytcknakbjiklklaa.F
