import Derived.Test.YtlifpafnkagofaaS14
/- The list without old neighbours. -/
namespace Go.Proofs.Ytlifpafnkagofaa.S
open Go Go.RowKit
set_option linter.unusedVariables false
def oldN (slot age : Int) (x : Nb) : Bool := decide (slot - x.sl ≥ age)
def forgetS (l : List Nb) (slot age : Int) : List Nb := if checkL l ≠ 0 ∨ slot < 0 ∨ age < 0 then l else l.filter fun x => !oldN slot age x
theorem forget_snoc (slot age : Int) (l : List Nb) (k : Nat) (h : k < l.length) : (l.take (k + 1)).filter (fun x => !oldN slot age x) = (l.take k).filter (fun x => !oldN slot age x) ++ if oldN slot age (nth l k) = true then [] else [nth l k] := by
  rw [List.take_succ_eq_append_getElem h, List.filter_append, ← nth_eq l k h]
  cases hq : oldN slot age (nth l k) <;> simp [hq]
end Go.Proofs.Ytlifpafnkagofaa.S
