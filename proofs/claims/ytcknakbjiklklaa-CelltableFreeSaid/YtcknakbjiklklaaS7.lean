import Derived.Test.YtcknakbjiklklaaS6
/- The first places that fit. -/
namespace Go.Proofs.Ytcknakbjiklklaa.S
open Go Go.RowKit
set_option linter.unusedVariables false
structure Sp where
  sl : Int
  off : Int
  deriving DecidableEq
instance : Inhabited Sp := ⟨⟨0, 0⟩⟩
/-- The first set bit from k on, among m. -/
def fbit (n : Int) : Nat → Nat → Option Nat
  | 0, _ => none
  | m + 1, k => if bitS n k = true then some k else fbit n m (k + 1)
def candF (f : List Int) (l : List TC) (n : Int) : Nat → Nat → List Sp → List Sp
  | 0, _, out => out
  | m + 1, s, out =>
    if (out.length : Int) ≥ n then out
    else if nth f s = 0 ∨ usedS l s = true then candF f l n m (s + 1) out
    else match fbit (nth f s) 16 0 with
      | some k => candF f l n m (s + 1) (out ++ [⟨s, k⟩])
      | none => candF f l n m (s + 1) out
def candS (nd len : Int) (l : List TC) (f : List Int) (n : Int) : List Sp :=
  if checkT nd len l ≠ 0 ∨ maskedS f len = false then [] else candF f l n len.toNat 0 []
theorem and_one (x : Nat) (hx : x < 65536) : bits .and .i64 (x : Int) 1 = ((x % 2 : Nat) : Int) := by
  show IntKind.i64.wrap ((BitVec.ofInt 64 (x : Int) &&& BitVec.ofInt 64 1).toNat : Int) = _
  have h1 : (BitVec.ofInt 64 1).toNat = 1 := by decide
  rw [BitVec.toNat_and, BitVec.ofInt_natCast, BitVec.toNat_ofNat, Nat.mod_eq_of_lt (by omega), h1, Nat.and_one_is_mod]
  exact IntWalk.i64_in _ (by omega)
theorem bit_of {a : Int} (k : Nat) (h0 : 0 ≤ a) (h1 : a < 65536) : (bits .and .i64 (a / 2 ^ k) 1 == 1) = bitS a k := by
  obtain ⟨x, rfl⟩ := Int.eq_ofNat_of_zero_le h0
  have e : (x : Int) / 2 ^ k = ((x / 2 ^ k : Nat) : Int) := by simp
  have hb : x / 2 ^ k < 65536 := Nat.lt_of_le_of_lt (Nat.div_le_self _ _) (by omega)
  unfold bitS
  rw [Int.toNat_natCast, e, and_one _ hb]
  rfl
end Go.Proofs.Ytcknakbjiklklaa.S
