import Derived.Test.YtlifpafnkagofaaF9
namespace Go.Proofs.Ytlifpafnkagofaa.F
open Go.RowKit Go.Sort Go.Proofs.Ytlifpafnkagofaa.B Go.Proofs.Ytlifpafnkagofaa.S
set_option linter.unusedVariables false
set_option linter.unusedSimpArgs false
theorem ret_b {a b : Bool} (h : a = b) : Ending.returned (.bool a) = .returned (.bool b) := by rw [h]
set_option maxHeartbeats 2000000 in
theorem qranges (a b c d : Int) (w : World) : Calls Try.prog 59 #[.int .i64 a, .int .i64 b, .int .i64 c, .int .i64 d] w fun e w' => e = .returned (.bool (heardS a b c d)) ∧ w = w' := by
  have hs : heardS a b c d = decide ((0 ≤ a ∧ a ≤ 31) ∧ (1 ≤ b ∧ b ≤ 65535) ∧ (0 ≤ c ∧ c ≤ 65534) ∧ (0 ≤ d ∧ d ≤ 1099511627776)) := by
    unfold heardS
    rw [Bool.eq_iff_iff]
    simp only [Bool.and_eq_true, win_iff, decide_eq_true_eq]
    omega
  rw [hs]
  clear hs
  generalize hd : decide ((0 ≤ a ∧ a ≤ 31) ∧ (1 ≤ b ∧ b ≤ 65535) ∧ (0 ≤ c ∧ c ≤ 65534) ∧ (0 ≤ d ∧ d ≤ 1099511627776)) = q
  have HD := Hd.mk hd
  clear hd
  go_enter Try.func59, Try.ntmps59
  go_wp2
  all_goals
    go_ret
    refine ⟨ret_b ?_, rfl⟩
    rw [← HD.out]
    try simp only [Bool.not_eq_true, win_not, win_iff, Bool.not_eq_false', beq_iff_eq, Bool.not_eq_true', beq_eq_false_iff_ne, decide_eq_true_eq, decide_eq_false_iff_not, bne_iff_ne, bne_eq_false_iff_eq, ne_eq, Int.not_lt, Int.not_le] at *
    rw [Bool.eq_iff_iff]; simp only [decide_eq_true_eq, Bool.or_eq_true, Bool.and_eq_true, beq_iff_eq, bne_iff_ne, ne_eq, Bool.not_eq_true', beq_eq_false_iff_ne, decide_eq_false_iff_not, Bool.false_eq_true, true_iff, false_iff]; first | done | omega
theorem qfew (A : Option Addr) (c : Nat) (l : List Nb) (w : World) (hm : l.length ≤ 9223372036854775807) : Calls Try.prog 12 #[.slice A l.length c] w fun e w' => e = .returned (.bool (decide (l.length ≤ 40))) ∧ w = w' := by
  by_cases h : l.length ≤ 40
  · have h' : (l.length : Int) ≤ 40 := by omega
    go_enter Try.func12, Try.ntmps12
    go_wp2
    go_ret
    exact ⟨ret_b (by simp [h]), rfl⟩
  · have h' : ¬ (l.length : Int) ≤ 40 := by omega
    go_enter Try.func12, Try.ntmps12
    go_wp2
    go_ret
    exact ⟨ret_b (by simp [h]), rfl⟩
set_option maxHeartbeats 4000000 in
theorem qcheck (A : Option Addr) (c : Nat) (l : List Nb) (w : World) (hr : Rd w A l) (hc : l.length ≤ c) : Calls Try.prog 28 #[.slice A l.length c] w fun e w' => e = .returned (.int .i64 (checkL l)) ∧ Gr w w' := by
  have hm := mixed
  have hl := hr.1
  have HR := Hd.mk hr
  clear hr
  by_cases h32 : l.length > 32
  · have h32' : (32 : Int) < (l.length : Int) := by omega
    go_enter Try.func28, Try.ntmps28
    go_wp2
    go_ret
    exact ⟨ret_i (by unfold checkL; rw [if_pos h32]), (by repeat (first | exact Gr.refl _ | with_reducible apply Gr.alloc | with_reducible apply Gr.grow | with_reducible apply Gr.drewN | with_reducible apply Gr.drew))⟩
  · have h32' : ¬ (32 : Int) < (l.length : Int) := by omega
    have hs : checkL l = checkF none l := by unfold checkL; rw [if_neg h32]
    rw [hs]
    clear hs
    go_enter Try.func28, Try.ntmps28
    go_wp2
    go_loopg [3, 4] l.length (fun gg s3 s4 wr => ∃ k : Nat, k ≤ l.length ∧ l.length - k ≤ gg ∧ s3 = .int .i64 k ∧ Hd (Gr w wr) ∧ Hd (checkF none l = checkF (prevOf l k) (l.drop k)))
    case atStart => exact ⟨0, Nat.zero_le _, by omega, rfl, ⟨Gr.refl w⟩, ⟨rfl⟩⟩
    case round =>
      obtain ⟨k, hk, hg, rfl, GW, CF⟩ := hrel
      by_cases hlt : k < l.length
      · obtain ⟨b, off, rfl, hb, hcell⟩ := HR.out.2 (by omega)
        obtain ⟨n, os, rfl⟩ := GW.out.out
        obtain ⟨k0, k1, k2, k3, k4, k5⟩ := hcell k hlt
        have hltz : (k : Int) < (l.length : Int) := by omega
        have hok : okN (nth l k) = (heardS (nth l k).nd (nth l k).ep (nth l k).ra (nth l k).sl && win (nth l k).c.at_ 0 255 && win (nth l k).c.ak 0 (nth l k).c.at_) := rfl
        have hbad := checkF_bad (l := l) (k := k) hlt
        generalize hx : nth l k = x at *
        obtain ⟨x0, x1, x2, x3, ⟨x4, x5⟩⟩ := x
        dsimp only at *
        have HX := Hd.mk hx
        have HO := Hd.mk hok
        have HBad := Hd.mk hbad
        clear hx hok hbad
        cases hh : heardS x0 x1 x2 x3 with
        | false =>
          go_wp2_with (first | (go_at_call 59; (with_reducible refine (qranges _ _ _ _ _).mono ?_); rintro e w' ⟨rfl, rfl⟩))
          go_ret
          exact ⟨ret_i (by rw [CF.out, HBad.out (by rw [HO.out, hh]; rfl)]), (by repeat (first | exact Gr.refl _ | with_reducible apply Gr.alloc | with_reducible apply Gr.grow | with_reducible apply Gr.drewN | with_reducible apply Gr.drew))⟩
        | true =>
          by_cases c2 : 0 ≤ x4 ∧ x4 ≤ 255
          · by_cases c3 : 0 ≤ x5 ∧ x5 ≤ x4
            · have hgood := checkF_next (l := l) (k := k) hlt
              have hfirst := checkF_first (l := l) (Nat.lt_of_le_of_lt (Nat.zero_le k) hlt)
              have hord := checkF_order (l := l) (k := k) hlt
              have hokx : okN (nth l k) = true := by rw [HX.out, HO.out, hh, (win_iff _ _ _).2 c2, (win_iff _ _ _).2 c3]; rfl
              have HG := Hd.mk hgood
              have HF := Hd.mk hfirst
              have HD := Hd.mk hord
              have HK := Hd.mk hokx
              clear hgood hfirst hord hokx
              obtain ⟨c20, c21⟩ := c2
              obtain ⟨c30, c31⟩ := c3
              rcases Nat.eq_zero_or_pos k with h0 | h0
              · subst h0
                simp only [Nat.zero_mul, Nat.add_zero] at k0 k1 k2 k3 k4 k5
                go_wp2_with (first | (go_at_call 59; (with_reducible refine (qranges _ _ _ _ _).mono ?_); rintro e w' ⟨rfl, rfl⟩))
                go_quiet (fail)
                go_wp2
                go_roundg (l.length - 1)
                case measure => omega
                case rel => exact ⟨1, by omega, by omega, by go_num, ⟨(by repeat (first | exact Gr.refl _ | with_reducible apply Gr.alloc | with_reducible apply Gr.grow | with_reducible apply Gr.drewN | with_reducible apply Gr.drew))⟩, ⟨by rw [CF.out, HF.out HK.out]⟩⟩
              · obtain ⟨j, rfl⟩ : ∃ j, k = j + 1 := ⟨k - 1, by omega⟩
                go_wp2_with (first | (go_at_call 59; (with_reducible refine (qranges _ _ _ _ _).mono ?_); rintro e w' ⟨rfl, rfl⟩))
                obtain ⟨p0, _⟩ := hcell j (by omega)
                generalize hy : (nth l j).nd = y at p0
                have HY := Hd.mk hy
                clear hy
                have z1 : IntKind.i64.wrap ((j : Int) + 1 - 1) = (j : Int) := (IntWalk.i64_in _ (by omega)).trans (by omega)
                have z2 : decide ((0 : Int) < (j : Int) + 1) = true := decide_eq_true (by omega)
                have z3 : (0 : Int) ≤ (j : Int) := by omega
                have z4 : (j : Int) < (l.length : Int) := by omega
                go_quiet (fail)
                go_wp2
                · go_ret
                  exact ⟨ret_i (by rw [CF.out, HD.out (by omega) HK.out (by rw [HX.out, Nat.add_sub_cancel, HY.out]; assumption)]), (by repeat (first | exact Gr.refl _ | with_reducible apply Gr.alloc | with_reducible apply Gr.grow | with_reducible apply Gr.drewN | with_reducible apply Gr.drew))⟩
                · go_roundg (l.length - (j + 2))
                  case measure => omega
                  case rel => exact ⟨j + 2, by omega, by omega, by go_num, ⟨(by repeat (first | exact Gr.refl _ | with_reducible apply Gr.alloc | with_reducible apply Gr.grow | with_reducible apply Gr.drewN | with_reducible apply Gr.drew))⟩, ⟨by rw [CF.out, HG.out (by omega) HK.out (by rw [HX.out, Nat.add_sub_cancel, HY.out]; first | assumption | omega)]⟩⟩
            · go_wp2_with (first | (go_at_call 59; (with_reducible refine (qranges _ _ _ _ _).mono ?_); rintro e w' ⟨rfl, rfl⟩))
              all_goals
                go_ret
                exact ⟨ret_i (by rw [CF.out, HBad.out (by rw [HO.out, hh, (win_iff _ _ _).2 c2, (win_not _ _ _).2 c3]; rfl)]), (by repeat (first | exact Gr.refl _ | with_reducible apply Gr.alloc | with_reducible apply Gr.grow | with_reducible apply Gr.drewN | with_reducible apply Gr.drew))⟩
          · go_wp2_with (first | (go_at_call 59; (with_reducible refine (qranges _ _ _ _ _).mono ?_); rintro e w' ⟨rfl, rfl⟩))
            all_goals
              go_ret
              exact ⟨ret_i (by rw [CF.out, HBad.out (by rw [HO.out, hh, (win_not _ _ _).2 c2]; rfl)]), (by repeat (first | exact Gr.refl _ | with_reducible apply Gr.alloc | with_reducible apply Gr.grow | with_reducible apply Gr.drewN | with_reducible apply Gr.drew))⟩
      · obtain rfl : k = l.length := by omega
        have hltz : ¬ ((l.length : Int) < (l.length : Int)) := by omega
        obtain ⟨n, os, rfl⟩ := GW.out.out
        go_wp2
        go_ret
        exact ⟨ret_i (by rw [CF.out, checkF_end]), (by repeat (first | exact Gr.refl _ | with_reducible apply Gr.alloc | with_reducible apply Gr.grow | with_reducible apply Gr.drewN | with_reducible apply Gr.drew))⟩
end Go.Proofs.Ytlifpafnkagofaa.F
