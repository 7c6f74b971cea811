import Derived.Test.YtlifpafnkagofaaS0
/- Neighbours, their costs, the order of links. -/
namespace Go.Proofs.Ytlifpafnkagofaa.S
open Go Go.RowKit
set_option linter.unusedVariables false
structure Ct where
  at_ : Int
  ak : Int
  deriving DecidableEq
structure Nb where
  nd : Int
  ep : Int
  ra : Int
  sl : Int
  c : Ct
  deriving DecidableEq
def zN : Nb := ⟨0, 0, 0, 0, ⟨0, 0⟩⟩
def costS (c : Ct) : Int :=
  if c.at_ < 0 ∨ c.ak < 0 ∨ c.ak > c.at_ then 0
  else if c.at_ < 4 then 256
  else if c.ak = 0 then 1023
  else min ((128 * c.at_ + c.ak - 1) / c.ak) 1023
theorem costS_bd (c : Ct) : 0 ≤ costS c ∧ costS c ≤ 1023 := by
  unfold costS
  repeat' split
  all_goals first | omega | skip
  rename_i h1 h2 h3
  have : 0 ≤ (128 * c.at_ + c.ak - 1) / c.ak := Int.ediv_nonneg (by omega) (by omega)
  omega
theorem cost_quo {a k : Int} (h1 : 4 ≤ a) (h2 : 1 ≤ k) (h3 : k ≤ a) (h4 : a ≤ 2147483648) : wrap64 ((128 * a + k - 1).tdiv k) = (128 * a + k - 1) / k := by
  rw [Int.tdiv_eq_ediv_of_nonneg (by omega)]
  have e1 : 0 ≤ (128 * a + k - 1) / k := Int.ediv_nonneg (by omega) (by omega)
  have e2 : (128 * a + k - 1) / k ≤ 128 * a + k - 1 := Int.ediv_le_self _ (by omega)
  unfold wrap64
  omega
def pathS (x : Nb) : Int := x.ra + costS x.c
end Go.Proofs.Ytlifpafnkagofaa.S
