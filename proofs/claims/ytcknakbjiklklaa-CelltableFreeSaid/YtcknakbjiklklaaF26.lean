import Derived.Test.YtcknakbjiklklaaF19
import Derived.Test.YtcknakbjiklklaaF22
/- hopmeshref16: FewSchedule, Same, taken. -/
namespace Go.Proofs.Ytcknakbjiklklaa.F
open Go.RowKit Go.Sort Go.Proofs.Ytcknakbjiklklaa.B Go.Proofs.Ytcknakbjiklklaa.S
set_option linter.unusedVariables false
set_option linter.unusedSimpArgs false
theorem qfews (len offs : Int) (A : Option Addr) (c : Nat) (l : List SC) (w : World) (hl : l.length ≤ 9223372036854775807) : Calls Try.prog 15 #[.agg #[.int .i64 len, .int .i64 offs, .slice A l.length c]] w fun e w' => e = .returned (.bool (fewT len l.length)) ∧ Gr w w' := by
  unfold fewT
  have hF := qfewc (l.length : Int)
  generalize fewC (l.length : Int) = q at *
  cases q with
  | false =>
    go_enter Try.func15, Try.ntmps15
    go_wp2_with (first | (go_at_call 42; (with_reducible refine (hF _).mono ?_); rintro e w' ⟨rfl, rfl⟩))
    go_ret
    exact ⟨ret_bool (by simp), (by repeat (first | exact Gr.refl _ | with_reducible apply Gr.alloc | with_reducible apply Gr.grow | with_reducible apply Gr.drewN | with_reducible apply Gr.drew))⟩
  | true =>
    by_cases h : len ≤ 64
    all_goals
      go_enter Try.func15, Try.ntmps15
      go_wp2_with (first | (go_at_call 42; (with_reducible refine (hF _).mono ?_); rintro e w' ⟨rfl, rfl⟩))
      go_ret
      exact ⟨ret_bool (by simp [h]), (by repeat (first | exact Gr.refl _ | with_reducible apply Gr.alloc | with_reducible apply Gr.grow | with_reducible apply Gr.drewN | with_reducible apply Gr.drew))⟩
def takenP (slot kind : Int) (c : TC) : Bool := c.sl == slot && c.ki == kind
set_option maxHeartbeats 4000000 in
theorem qtaken (A : Option Addr) (c : Nat) (l : List TC) (slot kind : Int) (w : World) (hr : Rd w A l) (hc : l.length ≤ c) :
    Calls Try.prog 52 #[.slice A l.length c, .int .i64 slot, .int .i64 kind] w fun e w' => e = .returned (.bool (l.any (takenP slot kind))) ∧ Gr w w' := by
  have hl := hr.1
  have HR := Hd.mk hr
  clear hr
  rw [← hasF_any]
  unfold hasF
  generalize hres : idxF (takenP slot kind) l 0 = res
  have HRes := Hd.mk hres
  clear hres
  go_enter Try.func52, Try.ntmps52
  go_wp2
  go_loopg [7] l.length (fun gg s7 wr => ∃ k : Nat, k ≤ l.length ∧ l.length - k ≤ gg ∧ s7 = .int .i64 k ∧ Hd (Gr w wr) ∧ Hd (res = idxF (takenP slot kind) (l.drop k) k))
  case atStart => exact ⟨0, Nat.zero_le _, by omega, rfl, ⟨Gr.refl w⟩, ⟨HRes.out.symm⟩⟩
  case round =>
    obtain ⟨k, hk, hg, rfl, GW, CF⟩ := hrel
    by_cases hlt : k < l.length
    · obtain ⟨b, off, rfl, hb, hcell⟩ := HR.out.2 (by omega)
      obtain ⟨n, os, rfl⟩ := GW.out.out
      obtain ⟨k0, k1, k2, k3, k4, k5⟩ := hcell k hlt
      have hltz : (k : Int) < (l.length : Int) := by omega
      have hkz : (0 : Int) ≤ (k : Int) := by omega
      have hyes := idxF_yes (p := takenP slot kind) hlt
      have hno := idxF_no (p := takenP slot kind) hlt
      clear hcell
      generalize nth l k = x at *
      obtain ⟨x0, x1, x2, x3, x4, x5⟩ := x
      dsimp only [takenP] at *
      have HYes := Hd.mk hyes
      have HNo := Hd.mk hno
      clear hyes hno
      cases h1 : (x0 == slot) with
      | false =>
        go_wp2
        go_roundg (l.length - (k + 1))
        case measure => omega
        case rel => exact ⟨k + 1, by omega, by omega, by go_num, ⟨(by repeat (first | exact Gr.refl _ | with_reducible apply Gr.alloc | with_reducible apply Gr.grow | with_reducible apply Gr.drewN | with_reducible apply Gr.drew))⟩, ⟨by rw [CF.out, HNo.out (by rw [h1]; rfl)]⟩⟩
      | true =>
        cases h2 : (x2 == kind) with
        | false =>
          go_wp2
          go_roundg (l.length - (k + 1))
          case measure => omega
          case rel => exact ⟨k + 1, by omega, by omega, by go_num, ⟨(by repeat (first | exact Gr.refl _ | with_reducible apply Gr.alloc | with_reducible apply Gr.grow | with_reducible apply Gr.drewN | with_reducible apply Gr.drew))⟩, ⟨by rw [CF.out, HNo.out (by rw [h1, h2]; rfl)]⟩⟩
        | true =>
          go_wp2
          go_ret
          exact ⟨ret_bool (by rw [CF.out, HYes.out (by rw [h1, h2]; rfl), decide_eq_true (by omega)]), (by repeat (first | exact Gr.refl _ | with_reducible apply Gr.alloc | with_reducible apply Gr.grow | with_reducible apply Gr.drewN | with_reducible apply Gr.drew))⟩
    · obtain rfl : k = l.length := by omega
      have hltz : ¬ ((l.length : Int) < (l.length : Int)) := by omega
      obtain ⟨n, os, rfl⟩ := GW.out.out
      go_wp2
      go_ret
      exact ⟨ret_bool (by rw [CF.out, idxF_end, decide_eq_false (by omega)]), (by repeat (first | exact Gr.refl _ | with_reducible apply Gr.alloc | with_reducible apply Gr.grow | with_reducible apply Gr.drewN | with_reducible apply Gr.drew))⟩
end Go.Proofs.Ytcknakbjiklklaa.F
