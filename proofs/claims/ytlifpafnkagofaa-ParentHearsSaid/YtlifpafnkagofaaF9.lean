import Derived.Test.YtlifpafnkagofaaB1
import Derived.Test.YtlifpafnkagofaaS2
namespace Go.Proofs.Ytlifpafnkagofaa.F
open Go.RowKit Go.Sort Go.Proofs.Ytlifpafnkagofaa.B Go.Proofs.Ytlifpafnkagofaa.S
set_option linter.unusedVariables false
set_option linter.unusedSimpArgs false
theorem ret_i {a b : Int} (h : a = b) : Ending.returned (.int .i64 a) = .returned (.int .i64 b) := by rw [h]
/-- A neighbour's six cells. -/
def C41 (w : World) (b o : Nat) (x : Nb) : Prop :=
  w.cell? ⟨b, o, none⟩ = some (.int .i64 x.nd) ∧ w.cell? ⟨b, o + 1, none⟩ = some (.int .i64 x.ep) ∧ w.cell? ⟨b, o + 2, none⟩ = some (.int .i64 x.ra) ∧
  w.cell? ⟨b, o + 3, none⟩ = some (.int .i64 x.sl) ∧ w.cell? ⟨b, o + 4, none⟩ = some (.int .i64 x.c.at_) ∧ w.cell? ⟨b, o + 5, none⟩ = some (.int .i64 x.c.ak)
/-- A list of neighbours that is read. -/
def Rd (w : World) (A : Option Addr) (l : List Nb) : Prop :=
  l.length ≤ 9223372036854775807 ∧ (0 < l.length → ∃ b off, A = some ⟨b, off, none⟩ ∧ b < w.heap.size ∧ ∀ j, j < l.length → C41 w b (off + j * 6) (nth l j))
theorem Rd.gr {w W : World} {A : Option Addr} {l : List Nb} (h : Rd w A l) (hg : Gr w W) : Rd W A l := by
  refine ⟨h.1, fun hl => ?_⟩
  obtain ⟨b, off, e, hb, hc⟩ := h.2 hl
  have hg' := hg.below
  refine ⟨b, off, e, Nat.lt_of_lt_of_le hb hg.size, fun j hj => ?_⟩
  have hf : ∀ o, W.cell? ⟨b, o, none⟩ = w.cell? ⟨b, o, none⟩ := fun o => hg'.cell (p := ⟨b, o, none⟩) hb
  unfold C41
  simp only [hf]
  exact hc j hj
theorem pwithin (n l h : Int) (w : World) : Calls Try.prog 42 #[.int .i64 n, .int .i64 l, .int .i64 h] w fun e w' => e = .returned (.bool (win n l h)) ∧ w = w' := by
  unfold win
  by_cases c : l ≤ n
  all_goals
    go_enter Try.func42, Try.ntmps42
    go_wp2
    go_ret
    exact ⟨by simp; omega, rfl⟩
theorem pheard (a b c d : Int) (w : World) : Calls Try.prog 51 #[.int .i64 a, .int .i64 b, .int .i64 c, .int .i64 d] w fun e w' => e = .returned (.bool (heardS a b c d)) ∧ w = w' := by
  unfold heardS
  go_enter Try.func51, Try.ntmps51
  go_wp2_with (go_at_call 42; (with_reducible refine (pwithin _ _ _ _).mono ?_); rintro e w' ⟨rfl, rfl⟩)
  all_goals (go_ret; exact ⟨by simp_all, rfl⟩)
set_option maxHeartbeats 4000000 in
theorem pcheck (A : Option Addr) (c : Nat) (l : List Nb) (w : World) (hr : Rd w A l) (hc : l.length ≤ c) : Calls Try.prog 17 #[.slice A l.length c] w fun e w' => e = .returned (.int .i64 (checkL l)) ∧ Gr w w' := by
  have hm := mixed
  have hl := hr.1
  have HR := Hd.mk hr
  clear hr
  by_cases h32 : l.length > 32
  · have h32' : (32 : Int) < (l.length : Int) := by omega
    go_enter Try.func17, Try.ntmps17
    go_wp2
    go_ret
    exact ⟨ret_i (by unfold checkL; rw [if_pos h32]), (by repeat (first | exact Gr.refl _ | with_reducible apply Gr.alloc | with_reducible apply Gr.grow | with_reducible apply Gr.drewN | with_reducible apply Gr.drew))⟩
  · have h32' : ¬ (32 : Int) < (l.length : Int) := by omega
    have hs : checkL l = checkF none l := by unfold checkL; rw [if_neg h32]
    rw [hs]
    clear hs
    go_enter Try.func17, Try.ntmps17
    go_wp2
    go_loopg [3, 4, 10] l.length (fun gg s3 s4 s10 wr => ∃ k : Nat, k ≤ l.length ∧ l.length - k ≤ gg ∧ s10 = .int .i64 k ∧ Hd (Gr w wr) ∧ Hd (checkF none l = checkF (prevOf l k) (l.drop k)))
    case atStart => exact ⟨0, Nat.zero_le _, by omega, rfl, ⟨Gr.refl w⟩, ⟨rfl⟩⟩
    case round =>
      obtain ⟨k, hk, hg, rfl, GW, CF⟩ := hrel
      by_cases hlt : k < l.length
      · obtain ⟨b, off, rfl, hb, hcell⟩ := HR.out.2 (by omega)
        obtain ⟨n, os, rfl⟩ := GW.out.out
        obtain ⟨k0, k1, k2, k3, k4, k5⟩ := hcell k hlt
        have hltz : (k : Int) < (l.length : Int) := by omega
        have hok : okN (nth l k) = (heardS (nth l k).nd (nth l k).ep (nth l k).ra (nth l k).sl && win (nth l k).c.at_ 0 255 && win (nth l k).c.ak 0 (nth l k).c.at_) := rfl
        have hbad := checkF_bad (l := l) (k := k) hlt
        generalize hx : nth l k = x at *
        obtain ⟨x0, x1, x2, x3, ⟨x4, x5⟩⟩ := x
        dsimp only at *
        have HX := Hd.mk hx
        have HO := Hd.mk hok
        have HBad := Hd.mk hbad
        clear hx hok hbad
        cases hh : heardS x0 x1 x2 x3 with
        | false =>
          go_wp2_with (first | (go_at_call 51; (with_reducible refine (pheard _ _ _ _ _).mono ?_); rintro e w' ⟨rfl, rfl⟩))
          go_ret
          exact ⟨ret_i (by rw [CF.out, HBad.out (by rw [HO.out, hh]; rfl)]), (by repeat (first | exact Gr.refl _ | with_reducible apply Gr.alloc | with_reducible apply Gr.grow | with_reducible apply Gr.drewN | with_reducible apply Gr.drew))⟩
        | true =>
          cases h2 : win x4 0 255 with
          | false =>
            go_wp2_with (first | (go_at_call 51; (with_reducible refine (pheard _ _ _ _ _).mono ?_); rintro e w' ⟨rfl, rfl⟩) | (go_at_call 42; (with_reducible refine (pwithin _ _ _ _).mono ?_); rintro e w' ⟨rfl, rfl⟩))
            go_ret
            exact ⟨ret_i (by rw [CF.out, HBad.out (by rw [HO.out, hh, h2]; rfl)]), (by repeat (first | exact Gr.refl _ | with_reducible apply Gr.alloc | with_reducible apply Gr.grow | with_reducible apply Gr.drewN | with_reducible apply Gr.drew))⟩
          | true =>
            cases h3 : win x5 0 x4 with
            | false =>
              go_wp2_with (first | (go_at_call 51; (with_reducible refine (pheard _ _ _ _ _).mono ?_); rintro e w' ⟨rfl, rfl⟩) | (go_at_call 42; (with_reducible refine (pwithin _ _ _ _).mono ?_); rintro e w' ⟨rfl, rfl⟩))
              go_ret
              exact ⟨ret_i (by rw [CF.out, HBad.out (by rw [HO.out, hh, h2, h3]; rfl)]), (by repeat (first | exact Gr.refl _ | with_reducible apply Gr.alloc | with_reducible apply Gr.grow | with_reducible apply Gr.drewN | with_reducible apply Gr.drew))⟩
            | true =>
              have hgood := checkF_next (l := l) (k := k) hlt
              have hfirst := checkF_first (l := l) (Nat.lt_of_le_of_lt (Nat.zero_le k) hlt)
              have hord := checkF_order (l := l) (k := k) hlt
              have hokx : okN (nth l k) = true := by rw [HX.out, HO.out, hh, h2, h3]; rfl
              have HG := Hd.mk hgood
              have HF := Hd.mk hfirst
              have HD := Hd.mk hord
              have HK := Hd.mk hokx
              clear hgood hfirst hord hokx
              rcases Nat.eq_zero_or_pos k with h0 | h0
              · subst h0
                simp only [Nat.zero_mul, Nat.add_zero] at k0 k1 k2 k3 k4 k5
                go_wp2_with (first | (go_at_call 51; (with_reducible refine (pheard _ _ _ _ _).mono ?_); rintro e w' ⟨rfl, rfl⟩) | (go_at_call 42; (with_reducible refine (pwithin _ _ _ _).mono ?_); rintro e w' ⟨rfl, rfl⟩))
                go_quiet (fail)
                go_wp2
                go_roundg (l.length - 1)
                case measure => omega
                case rel => exact ⟨1, by omega, by omega, by go_num, ⟨(by repeat (first | exact Gr.refl _ | with_reducible apply Gr.alloc | with_reducible apply Gr.grow | with_reducible apply Gr.drewN | with_reducible apply Gr.drew))⟩, ⟨by rw [CF.out, HF.out HK.out]⟩⟩
              · obtain ⟨j, rfl⟩ : ∃ j, k = j + 1 := ⟨k - 1, by omega⟩
                go_wp2_with (first | (go_at_call 51; (with_reducible refine (pheard _ _ _ _ _).mono ?_); rintro e w' ⟨rfl, rfl⟩) | (go_at_call 42; (with_reducible refine (pwithin _ _ _ _).mono ?_); rintro e w' ⟨rfl, rfl⟩))
                obtain ⟨p0, _⟩ := hcell j (by omega)
                generalize hy : (nth l j).nd = y at p0
                have HY := Hd.mk hy
                clear hy
                have z1 : IntKind.i64.wrap ((j : Int) + 1 - 1) = (j : Int) := (IntWalk.i64_in _ (by omega)).trans (by omega)
                have z2 : decide ((0 : Int) < (j : Int) + 1) = true := decide_eq_true (by omega)
                have z3 : (0 : Int) ≤ (j : Int) := by omega
                have z4 : (j : Int) < (l.length : Int) := by omega
                go_quiet (fail)
                go_wp2
                · go_ret
                  exact ⟨ret_i (by rw [CF.out, HD.out (by omega) HK.out (by rw [HX.out, Nat.add_sub_cancel, HY.out]; assumption)]), (by repeat (first | exact Gr.refl _ | with_reducible apply Gr.alloc | with_reducible apply Gr.grow | with_reducible apply Gr.drewN | with_reducible apply Gr.drew))⟩
                · go_roundg (l.length - (j + 2))
                  case measure => omega
                  case rel => exact ⟨j + 2, by omega, by omega, by go_num, ⟨(by repeat (first | exact Gr.refl _ | with_reducible apply Gr.alloc | with_reducible apply Gr.grow | with_reducible apply Gr.drewN | with_reducible apply Gr.drew))⟩, ⟨by rw [CF.out, HG.out (by omega) HK.out (by rw [HX.out, Nat.add_sub_cancel, HY.out]; first | assumption | omega)]⟩⟩
      · obtain rfl : k = l.length := by omega
        have hltz : ¬ ((l.length : Int) < (l.length : Int)) := by omega
        obtain ⟨n, os, rfl⟩ := GW.out.out
        go_wp2
        go_ret
        exact ⟨ret_i (by rw [CF.out, checkF_end]), (by repeat (first | exact Gr.refl _ | with_reducible apply Gr.alloc | with_reducible apply Gr.grow | with_reducible apply Gr.drewN | with_reducible apply Gr.drew))⟩
end Go.Proofs.Ytlifpafnkagofaa.F
