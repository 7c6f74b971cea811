import Derived.Test.YtcknakbjiklklaaS7
import Derived.Test.YtcknakbjiklklaaS8
/- Places that fit; tables that mirror one another. -/
namespace Go.Proofs.Ytcknakbjiklklaa.S
open Go Go.RowKit
set_option linter.unusedVariables false
def fitsS (nd len : Int) (l : List TC) (f : List Int) (sl off : Int) : Bool :=
  decide (checkT nd len l = 0) && (maskedS f len && (decide ((0 ≤ sl ∧ sl < len) ∧ 0 ≤ off ∧ off < 16) && (bitS (nth f sl.toNat) off && !usedS l sl)))
def oppP (x y : TC) : Bool := x.sl == y.sl && (x.off == y.off && x.se != y.se)
def oppS : List TC → List TC → Bool
  | [], [] => true
  | x :: r, y :: s => oppP x y && oppS r s
  | _, _ => false
theorem opp_len : ∀ {a b : List TC}, oppS a b = true → a.length = b.length
  | [], [], _ => rfl
  | x :: r, y :: s, h => by simp only [oppS, Bool.and_eq_true] at h; simp [opp_len h.2]
theorem opp_ne {a b : List TC} (h : a.length ≠ b.length) : oppS a b = false := by
  cases e : oppS a b with
  | false => rfl
  | true => exact absurd (opp_len e) h
theorem opp_yes {a b : List TC} {k : Nat} (ha : k < a.length) (hb : k < b.length) (hp : oppP (nth a k) (nth b k) = true) : oppS (a.drop k) (b.drop k) = oppS (a.drop (k + 1)) (b.drop (k + 1)) := by
  rw [drop_at a k ha, drop_at b k hb]; simp only [oppS]; rw [hp, Bool.true_and]
theorem opp_no {a b : List TC} {k : Nat} (ha : k < a.length) (hb : k < b.length) (hp : oppP (nth a k) (nth b k) = false) : oppS (a.drop k) (b.drop k) = false := by
  rw [drop_at a k ha, drop_at b k hb]; simp only [oppS]; rw [hp, Bool.false_and]
theorem opp_end {a b : List TC} (h : a.length = b.length) : oppS (a.drop a.length) (b.drop a.length) = true := by
  rw [List.drop_length, h, List.drop_length]; rfl
def mirS (na la : Int) (a : List TC) (nb lb : Int) (b : List TC) : Bool :=
  decide (checkT na la a = 0) && (decide (checkT nb lb b = 0) && (decide (na ≠ nb) && (decide (la = lb) && oppS (betS na la a nb) (betS nb lb b na))))
/-- The first place of a slot that fits. -/
def spotF (f : List Int) (l : List TC) (s : Nat) : Option Nat := if usedS l s = true then none else fbit (nth f s) 16 0
theorem bit_zero (k : Int) : bitS 0 k = false := by unfold bitS; simp
theorem fbit_zero : ∀ m k, fbit 0 m k = none
  | 0, _ => rfl
  | m + 1, k => by simp only [fbit]; rw [if_neg (by rw [bit_zero]; decide)]; exact fbit_zero m (k + 1)
theorem cand_step {f : List Int} {l : List TC} {n : Int} {m s : Nat} {out : List Sp} (h : ¬ (out.length : Int) ≥ n) :
    candF f l n (m + 1) s out = candF f l n m (s + 1) (out ++ match spotF f l s with | some k => [⟨s, k⟩] | none => []) := by
  simp only [candF]
  rw [if_neg h]
  unfold spotF
  by_cases h1 : usedS l s = true
  · rw [if_pos (.inr h1), if_pos h1]; simp
  · by_cases h2 : nth f s = 0
    · rw [if_pos (.inl h2), if_neg h1, h2, fbit_zero]; simp
    · rw [if_neg (by simp [h1, h2]), if_neg h1]
      cases fbit (nth f s) 16 0 <;> simp
end Go.Proofs.Ytcknakbjiklklaa.S
