import Derived.Test.YtlifpafnkagofaaS3
/- Links: neighbours with what a transmission costs; the best one. -/
namespace Go.Proofs.Ytlifpafnkagofaa.S
open Go Go.RowKit
set_option linter.unusedVariables false
def cmpS (a b : Int) : Int := if a < b then -1 else if b < a then 1 else 0
def orS (x y z : Int) : Int := if x ≠ 0 then x else if y ≠ 0 then y else z
structure Lk where
  nb : Nb
  ix : Int
  co : Int
def zL : Lk := ⟨zN, 0, 0⟩
instance : Inhabited Lk := ⟨zL⟩
def betS (a b : Lk) : Int := orS (cmpS b.nb.ep a.nb.ep) (cmpS (a.nb.ra + a.co) (b.nb.ra + b.co)) (cmpS a.nb.nd b.nb.nd)
def minF : Lk → List Lk → Lk
  | m, [] => m
  | m, x :: r => minF (if betS x m < 0 then x else m) r
def okK (x : Lk) : Prop := 0 ≤ x.nb.ra ∧ x.nb.ra ≤ 65535 ∧ 0 ≤ x.co ∧ x.co ≤ 1023
end Go.Proofs.Ytlifpafnkagofaa.S
