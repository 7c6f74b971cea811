import Derived.Test.YtcknakbjiklklaaS5
import Derived.Laws.BitsAllLaws
import Derived.IntWalk
/- Bits of a mask. -/
namespace Go.Proofs.Ytcknakbjiklklaa.S
open Go Go.RowKit
set_option linter.unusedVariables false
/-- Bit k of n. -/
def bitS (n k : Int) : Bool := n / 2 ^ k.toNat % 2 == 1
/-- n without its bit k. -/
def clrS (n k : Int) : Int := if bitS n k = true then n - 2 ^ k.toNat else n
theorem nat_or_add (x y : Nat) (hx : x < 2 ^ 64) (hy : y < 2 ^ 64) (h : x &&& y = 0) : x + y = x ||| y := by
  have e := BitVec.add_eq_or_of_and_eq_zero (BitVec.ofNat 65 x) (BitVec.ofNat 65 y) (by
    apply BitVec.eq_of_toNat_eq
    rw [BitVec.toNat_and, BitVec.toNat_ofNat, BitVec.toNat_ofNat, Nat.mod_eq_of_lt (by omega), Nat.mod_eq_of_lt (by omega), h]
    rfl)
  have e2 := congrArg BitVec.toNat e
  rw [BitVec.toNat_add, BitVec.toNat_or, BitVec.toNat_ofNat, BitVec.toNat_ofNat, Nat.mod_eq_of_lt (show x < 2 ^ 65 by omega), Nat.mod_eq_of_lt (show y < 2 ^ 65 by omega), Nat.mod_eq_of_lt (by omega)] at e2
  exact e2
theorem nat_clear (a k : Nat) (ha : a < 18446744073709551616) (hk : k < 64) : a &&& (18446744073709551615 - 2 ^ k) = if a / 2 ^ k % 2 = 1 then a - 2 ^ k else a := by
  have key : a &&& (18446744073709551615 - 2 ^ k) = a - (a / 2 ^ k % 2) * 2 ^ k := by
    have e : (18446744073709551615 - 2 ^ k : Nat) = 2 ^ 64 - 1 - 2 ^ k := by rfl
    rw [e]
    apply Nat.eq_of_testBit_eq
    intro i
    rw [Nat.testBit_and]
    have h1 : (2 ^ 64 - 1 - 2 ^ k).testBit i = (decide (i < 64) && !decide (i = k)) := by
      rw [show 2 ^ 64 - 1 - 2 ^ k = 2 ^ 64 - (2 ^ k + 1) by omega, Nat.testBit_two_pow_sub_succ (Nat.pow_lt_pow_right (by omega) hk), Nat.testBit_two_pow]
      congr 2
      simp [eq_comm]
    rw [h1]
    have h2 : (a - a / 2 ^ k % 2 * 2 ^ k).testBit i = (a.testBit i && !decide (i = k)) := by
      by_cases hb : a / 2 ^ k % 2 = 1
      · have hbit : a.testBit k = true := by rw [Nat.testBit_eq_decide_div_mod_eq, decide_eq_true hb]
        rw [hb, Nat.one_mul]
        have hle : 2 ^ k ≤ a := Nat.ge_two_pow_of_testBit hbit
        have hx : a - 2 ^ k = a ^^^ 2 ^ k := by
          have h3 : (a ^^^ 2 ^ k) + 2 ^ k = a := by
            have h4 : (a ^^^ 2 ^ k) &&& 2 ^ k = 0 := by
              apply Nat.eq_of_testBit_eq
              intro j
              rw [Nat.testBit_and, Nat.testBit_xor, Nat.testBit_two_pow, Nat.zero_testBit]
              by_cases hj : k = j
              · subst hj; simp [hbit]
              · simp [hj]
            have h5 : (a ^^^ 2 ^ k) ||| 2 ^ k = a := by
              apply Nat.eq_of_testBit_eq
              intro j
              rw [Nat.testBit_or, Nat.testBit_xor, Nat.testBit_two_pow]
              by_cases hj : k = j
              · subst hj; simp [hbit]
              · simp [hj]
            rw [nat_or_add _ _ (Nat.xor_lt_two_pow (by simpa using ha) (Nat.pow_lt_pow_right (by omega) hk)) (Nat.pow_lt_pow_right (by omega) hk) h4, h5]
          omega
        rw [hx, Nat.testBit_xor, Nat.testBit_two_pow]
        by_cases hj : k = i
        · subst hj; simp [hbit]
        · have : ¬ i = k := fun e => hj e.symm
          simp [hj, this]
      · have hz : a / 2 ^ k % 2 = 0 := by omega
        have hbit : a.testBit k = false := by rw [Nat.testBit_eq_decide_div_mod_eq, decide_eq_false hb]
        rw [hz, Nat.zero_mul, Nat.sub_zero]
        by_cases hj : i = k
        · subst hj; simp [hbit]
        · simp [hj]
    rw [h2]
    by_cases hi : i < 64
    · simp [hi]
    · have : a.testBit i = false := Nat.testBit_lt_two_pow (Nat.lt_of_lt_of_le ha (by
        have : 2 ^ 64 ≤ 2 ^ i := Nat.pow_le_pow_right (by omega) (by omega)
        simpa using this))
      simp [this]
  rw [key]
  split
  · rename_i h; rw [h, Nat.one_mul]
  · have hz : a / 2 ^ k % 2 = 0 := by omega
    rw [hz]; omega
theorem pow16 {k : Int} (h1 : k < 16) : (2 : Nat) ^ k.toNat ≤ 32768 := by
  have : (2 : Nat) ^ k.toNat ≤ 2 ^ 15 := Nat.pow_le_pow_right (by omega) (by omega)
  simpa using this
theorem pow16z (k : Int) : (2 : Int) ^ k.toNat = ((2 ^ k.toNat : Nat) : Int) := by simp
theorem bits_clear {a k : Int} (h0 : 0 ≤ a) (h1 : a < 65536) (k0 : 0 ≤ k) (k1 : k < 16) : bits .andNot .i64 a (2 ^ k.toNat) = clrS a k := by
  obtain ⟨x, rfl⟩ := Int.eq_ofNat_of_zero_le h0
  have hp := pow16 k1
  have hk : k.toNat < 64 := by omega
  unfold clrS bitS
  rw [pow16z]
  generalize hkk : k.toNat = q at *
  have hx : x < 65536 := by omega
  show IntKind.i64.wrap ((BitVec.ofInt 64 (x : Int) &&& ~~~BitVec.ofInt 64 ((2 ^ q : Nat) : Int)).toNat : Int) = _
  rw [BitVec.toNat_and, BitVec.toNat_not, BitVec.ofInt_natCast, BitVec.ofInt_natCast, BitVec.toNat_ofNat, BitVec.toNat_ofNat, Nat.mod_eq_of_lt (by omega), Nat.mod_eq_of_lt (by omega),
    show 2 ^ 64 - 1 - 2 ^ q = 18446744073709551615 - 2 ^ q by rfl, nat_clear x q (by omega) hk]
  generalize (2 : Nat) ^ q = P at *
  have hd : ((x : Int) / (P : Int) % 2) = ((x / P % 2 : Nat) : Int) := by omega
  rw [hd]
  by_cases h : x / P % 2 = 1
  · have hle : P ≤ x := by
      rcases Nat.lt_or_ge x P with e | e
      · rw [Nat.div_eq_of_lt e] at h; omega
      · exact e
    rw [if_pos h, if_pos (by rw [h]; rfl)]
    rw [IntWalk.i64_in _ (by omega)]
    omega
  · rw [if_neg h, if_neg (by intro e; apply h; have := beq_iff_eq.1 e; omega)]
    exact IntWalk.i64_in _ (by omega)
theorem clr_bd {a k : Int} (h0 : 0 ≤ a) (h1 : a < 65536) : 0 ≤ clrS a k ∧ clrS a k < 65536 := by
  unfold clrS bitS
  rw [pow16z]
  obtain ⟨x, rfl⟩ := Int.eq_ofNat_of_zero_le h0
  generalize k.toNat = q
  generalize (2 : Nat) ^ q = P at *
  have hd : ((x : Int) / (P : Int) % 2) = ((x / P % 2 : Nat) : Int) := by omega
  rw [hd]
  by_cases h : x / P % 2 = 1
  · have hle : P ≤ x := by
      rcases Nat.lt_or_ge x P with e | e
      · rw [Nat.div_eq_of_lt e] at h; omega
      · exact e
    rw [if_pos (by rw [h]; rfl)]
    omega
  · rw [if_neg (by intro e; apply h; have := beq_iff_eq.1 e; omega)]
    omega
/-- The mask's numbers, cell by cell. -/
def maskF : List Int → List SC → List Int
  | f, [] => f
  | f, c :: r => maskF (f.set c.sl.toNat (clrS (nth f c.sl.toNat) c.off)) r
def maskS (len offs : Int) (l : List SC) : List Int × Int :=
  if rightS len offs l = false then ([], 1) else (maskF (List.replicate len.toNat (2 ^ offs.toNat - 1)) l, 0)
end Go.Proofs.Ytcknakbjiklklaa.S
