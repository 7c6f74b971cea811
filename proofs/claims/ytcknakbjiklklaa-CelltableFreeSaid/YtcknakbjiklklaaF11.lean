import Derived.Test.YtcknakbjiklklaaF10
import Derived.Test.YtcknakbjiklklaaF5
/- slices.BinarySearchFunc by a slot; celltable.At. -/
namespace Go.Proofs.Ytcknakbjiklklaa.F
open Go.RowKit Go.Sort Go.Proofs.Ytcknakbjiklklaa.B Go.Proofs.Ytcknakbjiklklaa.S
set_option linter.unusedVariables false
set_option linter.unusedSimpArgs false
theorem tfind1 (x0 x1 x2 x4 x5 t : Int) (x3 : Bool) (w : World) : Calls Try.prog 59 #[.agg #[.int .i64 x0, .int .i64 x1, .int .i64 x2, .bool x3, .int .i64 x4, .int .i64 x5], .int .i64 t] w fun e w' => e = .returned (.int .i64 (cmpS x0 t)) ∧ Gr w w' := by
  go_enter Try.func59, Try.ntmps59
  go_wp2_with (go_at_call 60; (with_reducible refine (compare_ _ _ _).mono ?_); rintro e w' ⟨rfl, rfl⟩)
  go_ret
  exact ⟨rfl, (by repeat (first | exact Gr.refl _ | with_reducible apply Gr.alloc | with_reducible apply Gr.grow | with_reducible apply Gr.drewN | with_reducible apply Gr.drew))⟩
set_option maxHeartbeats 4000000 in
theorem tbsi (A : Option Addr) (c : Nat) (l : List TC) (t : Int) (w : World) (hr : Rd w A l) (hc : l.length ≤ c) (hs : ∀ i j, i < j → j < l.length → (nth l i).sl ≤ (nth l j).sl) (h512 : l.length ≤ 512) :
    Calls Try.prog 58 #[.slice A l.length c, .int .i64 t, .func (.func 59) #[] #[]] w fun e w' => e = .returned (.tuple #[.int .i64 (lowI l t : Nat), .bool (foundI l t)]) ∧ Gr w w' := by
  have hl := hr.1
  have HR := Hd.mk hr
  have HS := Hd.mk hs
  clear hr hs
  generalize hlw : lowI l t = lw
  have HL := Hd.mk hlw
  clear hlw
  generalize hfo : foundI l t = fo
  have HF := Hd.mk hfo
  clear hfo
  go_enter Try.func58, Try.ntmps58
  go_wp2
  go_loopg [9, 10, 11] l.length (fun gg s9 s10 s11 wr => ∃ lo hi : Nat, s9 = .int .i64 lo ∧ s10 = .int .i64 hi ∧ lo ≤ hi ∧ hi ≤ l.length ∧ hi - lo ≤ gg ∧ Hd (Gr w wr) ∧
    Hd ((∀ j, j < lo → (nth l j).sl < t) ∧ (∀ j, hi ≤ j → j < l.length → ¬ (nth l j).sl < t)))
  case atStart => exact ⟨0, l.length, rfl, rfl, Nat.zero_le _, Nat.le_refl _, by omega, ⟨Gr.refl w⟩, ⟨fun j hj => absurd hj (Nat.not_lt_zero _), fun j h1 h2 => by omega⟩⟩
  case round =>
    obtain ⟨lo, hi, rfl, rfl, hlh, hin, hg, GW, I⟩ := hrel
    obtain ⟨n, os, rfl⟩ := GW.out.out
    by_cases hlt : lo < hi
    · obtain ⟨b, off, rfl, hb, hcell⟩ := HR.out.2 (by omega)
      obtain ⟨k0, k1, k2, k3, k4, k5⟩ := hcell ((lo + hi) / 2) (by omega)
      generalize hx : nth l ((lo + hi) / 2) = x at *
      obtain ⟨x0, x1, x2, x3, x4, x5⟩ := x
      dsimp only at *
      have HX := Hd.mk hx
      clear hx
      have hlt' : (lo : Int) < (hi : Int) := by omega
      have hlo : (lo : Int) ≤ 512 := by omega
      have hhi : (hi : Int) ≤ 512 := by omega
      go_wp2_with (first | (go_at_call 59; (with_reducible refine (tfind1 _ _ _ _ _ _ _ _).mono ?_); rintro e w' ⟨rfl, hg⟩; obtain ⟨n, os, rfl⟩ := hg.out; clear hg))
      · have h : cmpS x0 t < 0 := by assumption
        have h' := (cmpS_neg _ _).1 h
        go_roundg (hi - ((lo + hi) / 2 + 1))
        case measure => omega
        case rel =>
          refine ⟨(lo + hi) / 2 + 1, hi, by rw [show ((lo : Int) + (hi : Int)) / 2 + 1 = (((lo + hi) / 2 + 1 : Nat) : Int) by omega], rfl, by omega, hin, Nat.le_refl _, ⟨(by repeat (first | exact Gr.refl _ | with_reducible apply Gr.alloc | with_reducible apply Gr.grow | with_reducible apply Gr.drewN | with_reducible apply Gr.drew))⟩, ⟨fun j hj => ?_, I.out.2⟩⟩
          rcases Nat.lt_or_ge j ((lo + hi) / 2) with e | e
          · have := HS.out j ((lo + hi) / 2) e (by omega)
            rw [HX.out] at this
            exact Int.lt_of_le_of_lt this h'
          · obtain rfl : j = (lo + hi) / 2 := by omega
            rw [HX.out]; exact h'
      · have h : ¬ cmpS x0 t < 0 := by omega
        have h' : ¬ x0 < t := fun hh => h ((cmpS_neg _ _).2 hh)
        go_roundg ((lo + hi) / 2 - lo)
        case measure => omega
        case rel =>
          refine ⟨lo, (lo + hi) / 2, rfl, by rw [show ((lo : Int) + (hi : Int)) / 2 = (((lo + hi) / 2 : Nat) : Int) by omega], by omega, by omega, Nat.le_refl _, ⟨(by repeat (first | exact Gr.refl _ | with_reducible apply Gr.alloc | with_reducible apply Gr.grow | with_reducible apply Gr.drewN | with_reducible apply Gr.drew))⟩, ⟨I.out.1, fun j hj hjl => ?_⟩⟩
          rcases Nat.lt_or_ge ((lo + hi) / 2) j with e | e
          · have := HS.out ((lo + hi) / 2) j e hjl
            rw [HX.out] at this
            dsimp only at this
            omega
          · obtain rfl : j = (lo + hi) / 2 := by omega
            rw [HX.out]; exact Int.not_lt.1 h'
    · obtain rfl : hi = lo := by omega
      have hlow : lw = hi := HL.out.symm.trans (lowI_boundary t l hi hin I.out.1 I.out.2)
      have hfo : fo = decide (hi < l.length ∧ (nth l hi).sl = t) := by rw [← hlow, ← HL.out]; exact HF.out.symm
      have HLo := Hd.mk hlow
      have HFo := Hd.mk hfo
      clear hlow hfo
      by_cases hn : hi < l.length
      · obtain ⟨b, off, rfl, hb, hcell⟩ := HR.out.2 (by omega)
        obtain ⟨k0, k1, k2, k3, k4, k5⟩ := hcell hi (by omega)
        generalize hx : nth l hi = x at *
        obtain ⟨x0, x1, x2, x3, x4, x5⟩ := x
        dsimp only at *
        have hn' : (hi : Int) < (l.length : Int) := by omega
        go_wp2_with (first | (go_at_call 59; (with_reducible refine (tfind1 _ _ _ _ _ _ _ _).mono ?_); rintro e w' ⟨rfl, hg⟩; obtain ⟨n, os, rfl⟩ := hg.out; clear hg))
        go_ret2
        exact ⟨by rw [HLo.out, HFo.out, show (cmpS x0 t == 0) = decide (hi < l.length ∧ x0 = t) from by rw [Bool.eq_iff_iff]; simp [cmpS_zero, hn]]; rfl, (by repeat (first | exact Gr.refl _ | with_reducible apply Gr.alloc | with_reducible apply Gr.grow | with_reducible apply Gr.drewN | with_reducible apply Gr.drew))⟩
      · have hn' : ¬ (hi : Int) < (l.length : Int) := by omega
        go_wp2
        go_ret2
        exact ⟨by rw [HLo.out, HFo.out, show decide (hi < l.length ∧ (nth l hi).sl = t) = false from by simp [hn]]; rfl, (by repeat (first | exact Gr.refl _ | with_reducible apply Gr.alloc | with_reducible apply Gr.grow | with_reducible apply Gr.drewN | with_reducible apply Gr.drew))⟩
end Go.Proofs.Ytcknakbjiklklaa.F
