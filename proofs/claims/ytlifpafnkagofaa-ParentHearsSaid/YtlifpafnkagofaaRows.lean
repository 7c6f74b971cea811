/-
  No cell of these rows narrows 'for every input' (looked for: loops, veiled, ifaces, maps, wideKeys, modest, calm, conditions, laid).
  DERIVED. THE GIVEN ROWS OF THIS SEAT. 8 by the template 'for every input the law returns true; each argument reads behind the call as it read before'; 0 by the template 'total and deterministic' (their statements: YtlifpafnkagofaaTotals.lean).
  GIVEN WITH THE SEED: the statements are not yours to turn. If you find one false, say at which input.
  Laid BY PROGRAM, IN A SANDBOX (cutbox-rows.mjs): the forced cells as the released guide's own fill.sh prints them over the translation 694bf9d4ddf31f4c… (all of the seat's roots in one cut). By AI agents, Wed Nov 11 2026. No macro, syntax, notation, axiom, sorry.
-/
import Derived.Test.YtlifpafnkagofaaChecked
import GoSem.Claim
import GoSem.ClaimJoined
import GoSem.ClaimMapViews
import Derived.JoinedTies
import Derived.KernelRfl
namespace Go.Proofs.Ytlifpafnkagofaa
/- THE CELL 'sum', in the pinned program and in every row, IS THE sha256 OF THE DUMP (.gsa) THAT YtlifpafnkagofaaProg.lean LOADS. Nothing in Lean hashes anything: it is a label: what it is worth is what the hold of that sum in a sandbox is worth. -/
noncomputable def Try.pinned : Pinned := { name := "ytlifpafnkagofaa", sum := "694bf9d4ddf31f4ca697bd71ae0b7b339171ab2c8426c001a5f8ccfcb64fe0cb", checked := Try.checked }
namespace Rows
def none {H : Type} : Left H := { results := [], args := [] }

/-- 'hopmeshlaw23.ParentBest': WHATEVER THE INPUT: true; the input reads as it did. -/
def parentBestSpec : ChangeSpec := { name := "parentBest", fn := fun _ => fun
  | [d1, d2] => { results := [.lit (.bool true)], args := [d1, d2] }
  | _ => none }
def parentBestRow : OpenClaim := { program := "ytlifpafnkagofaa", sum := "694bf9d4ddf31f4ca697bd71ae0b7b339171ab2c8426c001a5f8ccfcb64fe0cb", func := "hopmesh/hopmeshlaw23.ParentBest", spec := "parentBest", unfollowed := true, recurses := true, apart := false }
def ParentBestSaid : Prop := parentBestRow.holds Try.pinned (OpenSpec.ofChange parentBestSpec)

/-- ITS FALSE NEIGHBOUR: 'it returns false'. Refute it at one input. -/
def parentBestWrong : ChangeSpec := { name := "parentBest", fn := fun _ => fun
  | [d1, d2] => { results := [.lit (.bool false)], args := [d1, d2] }
  | _ => none }
def ParentBestWrongFalsely : Prop := parentBestRow.holds Try.pinned (OpenSpec.ofChange parentBestWrong)

/-- 'hopmeshlaw23.ParentSelects': WHATEVER THE INPUT: true; the input reads as it did. -/
def parentSelectsSpec : ChangeSpec := { name := "parentSelects", fn := fun _ => fun
  | [d1, d2, d3] => { results := [.lit (.bool true)], args := [d1, d2, d3] }
  | _ => none }
def parentSelectsRow : OpenClaim := { program := "ytlifpafnkagofaa", sum := "694bf9d4ddf31f4ca697bd71ae0b7b339171ab2c8426c001a5f8ccfcb64fe0cb", func := "hopmesh/hopmeshlaw23.ParentSelects", spec := "parentSelects", unfollowed := true, recurses := true, apart := false }
def ParentSelectsSaid : Prop := parentSelectsRow.holds Try.pinned (OpenSpec.ofChange parentSelectsSpec)

/-- ITS FALSE NEIGHBOUR: 'it returns false'. Refute it at one input. -/
def parentSelectsWrong : ChangeSpec := { name := "parentSelects", fn := fun _ => fun
  | [d1, d2, d3] => { results := [.lit (.bool false)], args := [d1, d2, d3] }
  | _ => none }
def ParentSelectsWrongFalsely : Prop := parentSelectsRow.holds Try.pinned (OpenSpec.ofChange parentSelectsWrong)

/-- 'hopmeshlaw23.ParentSteady': WHATEVER THE INPUT: true; the input reads as it did. -/
def parentSteadySpec : ChangeSpec := { name := "parentSteady", fn := fun _ => fun
  | [d1, d2, d3] => { results := [.lit (.bool true)], args := [d1, d2, d3] }
  | _ => none }
def parentSteadyRow : OpenClaim := { program := "ytlifpafnkagofaa", sum := "694bf9d4ddf31f4ca697bd71ae0b7b339171ab2c8426c001a5f8ccfcb64fe0cb", func := "hopmesh/hopmeshlaw23.ParentSteady", spec := "parentSteady", unfollowed := true, recurses := true, apart := false }
def ParentSteadySaid : Prop := parentSteadyRow.holds Try.pinned (OpenSpec.ofChange parentSteadySpec)

/-- ITS FALSE NEIGHBOUR: 'it returns false'. Refute it at one input. -/
def parentSteadyWrong : ChangeSpec := { name := "parentSteady", fn := fun _ => fun
  | [d1, d2, d3] => { results := [.lit (.bool false)], args := [d1, d2, d3] }
  | _ => none }
def ParentSteadyWrongFalsely : Prop := parentSteadyRow.holds Try.pinned (OpenSpec.ofChange parentSteadyWrong)

/-- 'hopmeshlaw23.ParentNearBest': WHATEVER THE INPUT: true; the input reads as it did. -/
def parentNearBestSpec : ChangeSpec := { name := "parentNearBest", fn := fun _ => fun
  | [d1, d2, d3] => { results := [.lit (.bool true)], args := [d1, d2, d3] }
  | _ => none }
def parentNearBestRow : OpenClaim := { program := "ytlifpafnkagofaa", sum := "694bf9d4ddf31f4ca697bd71ae0b7b339171ab2c8426c001a5f8ccfcb64fe0cb", func := "hopmesh/hopmeshlaw23.ParentNearBest", spec := "parentNearBest", unfollowed := true, recurses := true, apart := false }
def ParentNearBestSaid : Prop := parentNearBestRow.holds Try.pinned (OpenSpec.ofChange parentNearBestSpec)

/-- ITS FALSE NEIGHBOUR: 'it returns false'. Refute it at one input. -/
def parentNearBestWrong : ChangeSpec := { name := "parentNearBest", fn := fun _ => fun
  | [d1, d2, d3] => { results := [.lit (.bool false)], args := [d1, d2, d3] }
  | _ => none }
def ParentNearBestWrongFalsely : Prop := parentNearBestRow.holds Try.pinned (OpenSpec.ofChange parentNearBestWrong)

/-- 'hopmeshlaw23.ParentLists': WHATEVER THE INPUT: true; the input reads as it did. -/
def parentListsSpec : ChangeSpec := { name := "parentLists", fn := fun _ => fun
  | [d1, d2, d3, d4, d5, d6] => { results := [.lit (.bool true)], args := [d1, d2, d3, d4, d5, d6] }
  | _ => none }
def parentListsRow : OpenClaim := { program := "ytlifpafnkagofaa", sum := "694bf9d4ddf31f4ca697bd71ae0b7b339171ab2c8426c001a5f8ccfcb64fe0cb", func := "hopmesh/hopmeshlaw23.ParentLists", spec := "parentLists", inPlace := ["slices.overlaps[hopmesh/api.Neighbour]"], unfollowed := true, recurses := true, apart := false }
def ParentListsSaid : Prop := parentListsRow.holds Try.pinned (OpenSpec.ofChange parentListsSpec)

/-- ITS FALSE NEIGHBOUR: 'it returns false'. Refute it at one input. -/
def parentListsWrong : ChangeSpec := { name := "parentLists", fn := fun _ => fun
  | [d1, d2, d3, d4, d5, d6] => { results := [.lit (.bool false)], args := [d1, d2, d3, d4, d5, d6] }
  | _ => none }
def ParentListsWrongFalsely : Prop := parentListsRow.holds Try.pinned (OpenSpec.ofChange parentListsWrong)

/-- 'hopmeshlaw23.ParentCounts': WHATEVER THE INPUT: true; the input reads as it did. -/
def parentCountsSpec : ChangeSpec := { name := "parentCounts", fn := fun _ => fun
  | [d1, d2, d3] => { results := [.lit (.bool true)], args := [d1, d2, d3] }
  | _ => none }
def parentCountsRow : OpenClaim := { program := "ytlifpafnkagofaa", sum := "694bf9d4ddf31f4ca697bd71ae0b7b339171ab2c8426c001a5f8ccfcb64fe0cb", func := "hopmesh/hopmeshlaw23.ParentCounts", spec := "parentCounts", unfollowed := true, recurses := true, apart := false }
def ParentCountsSaid : Prop := parentCountsRow.holds Try.pinned (OpenSpec.ofChange parentCountsSpec)

/-- ITS FALSE NEIGHBOUR: 'it returns false'. Refute it at one input. -/
def parentCountsWrong : ChangeSpec := { name := "parentCounts", fn := fun _ => fun
  | [d1, d2, d3] => { results := [.lit (.bool false)], args := [d1, d2, d3] }
  | _ => none }
def ParentCountsWrongFalsely : Prop := parentCountsRow.holds Try.pinned (OpenSpec.ofChange parentCountsWrong)

/-- 'hopmeshlaw23.ParentHears': WHATEVER THE INPUT: true; the input reads as it did. -/
def parentHearsSpec : ChangeSpec := { name := "parentHears", fn := fun _ => fun
  | [d1, d2, d3, d4, d5, d6] => { results := [.lit (.bool true)], args := [d1, d2, d3, d4, d5, d6] }
  | _ => none }
def parentHearsRow : OpenClaim := { program := "ytlifpafnkagofaa", sum := "694bf9d4ddf31f4ca697bd71ae0b7b339171ab2c8426c001a5f8ccfcb64fe0cb", func := "hopmesh/hopmeshlaw23.ParentHears", spec := "parentHears", inPlace := ["slices.overlaps[hopmesh/api.Neighbour]"], unfollowed := true, recurses := true, apart := false }
def ParentHearsSaid : Prop := parentHearsRow.holds Try.pinned (OpenSpec.ofChange parentHearsSpec)

/-- ITS FALSE NEIGHBOUR: 'it returns false'. Refute it at one input. -/
def parentHearsWrong : ChangeSpec := { name := "parentHears", fn := fun _ => fun
  | [d1, d2, d3, d4, d5, d6] => { results := [.lit (.bool false)], args := [d1, d2, d3, d4, d5, d6] }
  | _ => none }
def ParentHearsWrongFalsely : Prop := parentHearsRow.holds Try.pinned (OpenSpec.ofChange parentHearsWrong)

/-- 'hopmeshlaw23.ParentCosts': WHATEVER THE INPUT: true; the input reads as it did. -/
def parentCostsSpec : ChangeSpec := { name := "parentCosts", fn := fun _ => fun
  | [d1, d2, d3, d4] => { results := [.lit (.bool true)], args := [d1, d2, d3, d4] }
  | _ => none }
def parentCostsRow : OpenClaim := { program := "ytlifpafnkagofaa", sum := "694bf9d4ddf31f4ca697bd71ae0b7b339171ab2c8426c001a5f8ccfcb64fe0cb", func := "hopmesh/hopmeshlaw23.ParentCosts", spec := "parentCosts", unfollowed := true, recurses := true, apart := false }
def ParentCostsSaid : Prop := parentCostsRow.holds Try.pinned (OpenSpec.ofChange parentCostsSpec)

/-- ITS FALSE NEIGHBOUR: 'it returns false'. Refute it at one input. -/
def parentCostsWrong : ChangeSpec := { name := "parentCosts", fn := fun _ => fun
  | [d1, d2, d3, d4] => { results := [.lit (.bool false)], args := [d1, d2, d3, d4] }
  | _ => none }
def ParentCostsWrongFalsely : Prop := parentCostsRow.holds Try.pinned (OpenSpec.ofChange parentCostsWrong)

/- THE SECOND FORM. 'bulk': how many values and letters a reading holds, each counted each time it is reached (what is shared counts as often as it is met; a slice's spare places count too). A statement '..UptoSaid' is the law's where the arguments, and the package variables that the reading takes, are together of bulk at most 1048576: NARROWER than '..Said'. Prove '..Said' where nothing that the law and all that it calls make is longer than what came in: it says more and counts as full. Else prove '..UptoSaid'. A law counts once. -/
mutual
def uptoBulk {H : Type} : DataW H → Nat
  | .lit (.string bytes) => bytes.length + 1
  | .lit _ => 1
  | .nil => 1
  | .ptr d => uptoBulk d + 1
  | .slice elems spare => uptoBulkAll elems + uptoBulkAll spare + 1
  | .agg parts => uptoBulkAll parts + 1
  | .iface _ d => uptoBulk d + 1
  | .map entries => uptoBulkEntries entries + 1
  | .held _ => 1
def uptoBulkAll {H : Type} : List (DataW H) → Nat
  | [] => 0
  | d :: r => uptoBulk d + uptoBulkAll r
def uptoBulkEntries {H : Type} : List (Lit × DataW H) → Nat
  | [] => 0
  | x :: r => uptoBulkEntry x + uptoBulkEntries r
def uptoBulkEntry {H : Type} : Lit × DataW H → Nat
  | (.string bytes, d) => bytes.length + uptoBulk d + 1
  | (_, d) => uptoBulk d + 1
 end
def uptoSmall : (H : Type) → List (DataW H) → Bool := fun _ ds => decide (uptoBulkAll ds ≤ 1048576)
def OpenSpec.upto (s : _root_.Go.ChangeSpec) : _root_.Go.OpenSpec := { _root_.Go.OpenSpec.ofChange s with cond := some uptoSmall }

/-- 'hopmeshlaw23.ParentBest', WHERE WHAT IT READS IS OF BULK AT MOST 1048576: true; the input reads as it did. -/
def parentBestUptoRow : OpenClaim := { program := "ytlifpafnkagofaa", sum := "694bf9d4ddf31f4ca697bd71ae0b7b339171ab2c8426c001a5f8ccfcb64fe0cb", func := "hopmesh/hopmeshlaw23.ParentBest", spec := "parentBest", unfollowed := true, recurses := true, apart := false, narrowed := true }
def ParentBestUptoSaid : Prop := parentBestUptoRow.holds Try.pinned (OpenSpec.upto parentBestSpec)

/-- 'hopmeshlaw23.ParentSelects', WHERE WHAT IT READS IS OF BULK AT MOST 1048576: true; the input reads as it did. -/
def parentSelectsUptoRow : OpenClaim := { program := "ytlifpafnkagofaa", sum := "694bf9d4ddf31f4ca697bd71ae0b7b339171ab2c8426c001a5f8ccfcb64fe0cb", func := "hopmesh/hopmeshlaw23.ParentSelects", spec := "parentSelects", unfollowed := true, recurses := true, apart := false, narrowed := true }
def ParentSelectsUptoSaid : Prop := parentSelectsUptoRow.holds Try.pinned (OpenSpec.upto parentSelectsSpec)

/-- 'hopmeshlaw23.ParentSteady', WHERE WHAT IT READS IS OF BULK AT MOST 1048576: true; the input reads as it did. -/
def parentSteadyUptoRow : OpenClaim := { program := "ytlifpafnkagofaa", sum := "694bf9d4ddf31f4ca697bd71ae0b7b339171ab2c8426c001a5f8ccfcb64fe0cb", func := "hopmesh/hopmeshlaw23.ParentSteady", spec := "parentSteady", unfollowed := true, recurses := true, apart := false, narrowed := true }
def ParentSteadyUptoSaid : Prop := parentSteadyUptoRow.holds Try.pinned (OpenSpec.upto parentSteadySpec)

/-- 'hopmeshlaw23.ParentNearBest', WHERE WHAT IT READS IS OF BULK AT MOST 1048576: true; the input reads as it did. -/
def parentNearBestUptoRow : OpenClaim := { program := "ytlifpafnkagofaa", sum := "694bf9d4ddf31f4ca697bd71ae0b7b339171ab2c8426c001a5f8ccfcb64fe0cb", func := "hopmesh/hopmeshlaw23.ParentNearBest", spec := "parentNearBest", unfollowed := true, recurses := true, apart := false, narrowed := true }
def ParentNearBestUptoSaid : Prop := parentNearBestUptoRow.holds Try.pinned (OpenSpec.upto parentNearBestSpec)

/-- 'hopmeshlaw23.ParentLists', WHERE WHAT IT READS IS OF BULK AT MOST 1048576: true; the input reads as it did. -/
def parentListsUptoRow : OpenClaim := { program := "ytlifpafnkagofaa", sum := "694bf9d4ddf31f4ca697bd71ae0b7b339171ab2c8426c001a5f8ccfcb64fe0cb", func := "hopmesh/hopmeshlaw23.ParentLists", spec := "parentLists", inPlace := ["slices.overlaps[hopmesh/api.Neighbour]"], unfollowed := true, recurses := true, apart := false, narrowed := true }
def ParentListsUptoSaid : Prop := parentListsUptoRow.holds Try.pinned (OpenSpec.upto parentListsSpec)

/-- 'hopmeshlaw23.ParentCounts', WHERE WHAT IT READS IS OF BULK AT MOST 1048576: true; the input reads as it did. -/
def parentCountsUptoRow : OpenClaim := { program := "ytlifpafnkagofaa", sum := "694bf9d4ddf31f4ca697bd71ae0b7b339171ab2c8426c001a5f8ccfcb64fe0cb", func := "hopmesh/hopmeshlaw23.ParentCounts", spec := "parentCounts", unfollowed := true, recurses := true, apart := false, narrowed := true }
def ParentCountsUptoSaid : Prop := parentCountsUptoRow.holds Try.pinned (OpenSpec.upto parentCountsSpec)

/-- 'hopmeshlaw23.ParentHears', WHERE WHAT IT READS IS OF BULK AT MOST 1048576: true; the input reads as it did. -/
def parentHearsUptoRow : OpenClaim := { program := "ytlifpafnkagofaa", sum := "694bf9d4ddf31f4ca697bd71ae0b7b339171ab2c8426c001a5f8ccfcb64fe0cb", func := "hopmesh/hopmeshlaw23.ParentHears", spec := "parentHears", inPlace := ["slices.overlaps[hopmesh/api.Neighbour]"], unfollowed := true, recurses := true, apart := false, narrowed := true }
def ParentHearsUptoSaid : Prop := parentHearsUptoRow.holds Try.pinned (OpenSpec.upto parentHearsSpec)

/-- 'hopmeshlaw23.ParentCosts', WHERE WHAT IT READS IS OF BULK AT MOST 1048576: true; the input reads as it did. -/
def parentCostsUptoRow : OpenClaim := { program := "ytlifpafnkagofaa", sum := "694bf9d4ddf31f4ca697bd71ae0b7b339171ab2c8426c001a5f8ccfcb64fe0cb", func := "hopmesh/hopmeshlaw23.ParentCosts", spec := "parentCosts", unfollowed := true, recurses := true, apart := false, narrowed := true }
def ParentCostsUptoSaid : Prop := parentCostsUptoRow.holds Try.pinned (OpenSpec.upto parentCostsSpec)

end Rows
end Go.Proofs.Ytlifpafnkagofaa
