import Derived.Test.YtcknakbjiklklaaF26
import Derived.Test.YtcknakbjiklklaaF14
import Derived.Test.YtcknakbjiklklaaS7
/- hopmeshref16: power, Bit, Same. -/
namespace Go.Proofs.Ytcknakbjiklklaa.F
open Go.RowKit Go.Sort Go.Proofs.Ytcknakbjiklklaa.B Go.Proofs.Ytcknakbjiklklaa.S
set_option linter.unusedVariables false
set_option linter.unusedSimpArgs false
set_option maxHeartbeats 1000000 in
theorem qpower (a : Int) (h0 : 0 ≤ a) (h1 : a ≤ 16) (w : World) : Calls Try.prog 54 #[.int .i64 a] w fun e w' => e = .returned (.int .i64 (2 ^ a.toNat)) ∧ w = w' := by
  go_enter Try.func54, Try.ntmps54
  go_wp2
  go_loopg [3, 4] a.toNat (fun gg s3 s4 wr => ∃ (k : Nat) (p : Int), k ≤ a.toNat ∧ a.toNat - k ≤ gg ∧ s4 = .int .i64 k ∧ s3 = .int .i64 p ∧ Hd (p = 2 ^ k) ∧ wr = w)
  case atStart => exact ⟨0, 1, Nat.zero_le _, by omega, rfl, rfl, ⟨rfl⟩, rfl⟩
  case round =>
    obtain ⟨k, p, hk, hg, rfl, rfl, HP, rfl⟩ := hrel
    by_cases hlt : k < a.toNat
    · have hltz : (k : Int) < a := by omega
      have hb : 1 ≤ p ∧ p ≤ 65536 := by
        rw [HP.out]
        have := pow17z (k := (k : Int)) (by omega)
        simpa using this
      obtain ⟨hb1, hb2⟩ := hb
      go_wp2
      go_roundg (a.toNat - (k + 1))
      case measure => omega
      case rel => exact ⟨k + 1, 2 * p, by omega, by omega, by go_num, by go_num, ⟨by rw [HP.out, Int.pow_succ, Int.mul_comm]⟩, rfl⟩
    · obtain rfl : k = a.toNat := by omega
      have hltz : ¬ ((a.toNat : Int) < a) := by omega
      go_wp2
      go_ret
      exact ⟨ret_i HP.out, rfl⟩
set_option maxHeartbeats 1000000 in
theorem qbit (n a : Int) (hn : 0 ≤ n) (hn1 : n < 65536) (h0 : 0 ≤ a) (h1 : a ≤ 16) (w : World) : Calls Try.prog 55 #[.int .i64 n, .int .i64 a] w fun e w' => e = .returned (.bool (bitS n a)) ∧ w = w' := by
  go_enter Try.func55, Try.ntmps55
  go_wp2
  go_loopg [0, 5] a.toNat (fun gg s0 s5 wr => ∃ (k : Nat) (p : Int), k ≤ a.toNat ∧ a.toNat - k ≤ gg ∧ s5 = .int .i64 k ∧ s0 = .int .i64 p ∧ Hd (p = n / 2 ^ k) ∧ 0 ≤ p ∧ p < 65536 ∧ wr = w)
  case atStart => exact ⟨0, n, Nat.zero_le _, by omega, rfl, rfl, ⟨by simp⟩, hn, hn1, rfl⟩
  case round =>
    obtain ⟨k, p, hk, hg, rfl, rfl, HP, hp0, hp1, rfl⟩ := hrel
    by_cases hlt : k < a.toNat
    · have hltz : (k : Int) < a := by omega
      go_wp2
      go_roundg (a.toNat - (k + 1))
      case measure => omega
      case rel => exact ⟨k + 1, p / 2, by omega, by omega, by go_num, by go_num, ⟨by rw [HP.out, Int.ediv_ediv_of_nonneg (Int.pow_nonneg (by omega)), Int.pow_succ]⟩, by omega, by omega, rfl⟩
    · obtain rfl : k = a.toNat := by omega
      have hltz : ¬ ((a.toNat : Int) < a) := by omega
      have hb : bitS n a = (p % 2 == 1) := by unfold bitS; rw [← HP.out]
      have HBb := Hd.mk hb
      clear hb
      have hm2 : p.tmod 2 = p % 2 := Int.tmod_eq_emod_of_nonneg hp0
      go_wp2
      go_ret
      exact ⟨ret_bool (by rw [HBb.out]), rfl⟩
end Go.Proofs.Ytcknakbjiklklaa.F
