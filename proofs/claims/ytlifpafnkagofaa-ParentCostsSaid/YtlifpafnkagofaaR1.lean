import Derived.Test.YtlifpafnkagofaaR0
/- Two more openers: counts, a list of marks. -/
namespace Go.Proofs.Ytlifpafnkagofaa.R
open Go.RowKit Go.ChangeShapes Go.WideShapes Go.Proofs.Ytlifpafnkagofaa.S Go.Proofs.Ytlifpafnkagofaa.F
set_option linter.unusedVariables false
section
variable {H : Type} {enc : TypeId × Value → H} {w : World} {base : Nat} {spare : Nat → Bool} {held : Bool} {fuel : Nat} {cs : List Value} {x : DataW H × List MemPlace}
theorem ints39 (h : DataW.trod enc Try.prog w base spare held fuel 39 cs = some x) : ∃ a0 a1 : Int, cs = [.int .i64 a0, .int .i64 a1] := by
  obtain ⟨hl, hf⟩ := field und39 h
  rw [cells39] at hl
  match cs, hl with
  | [v0, v1], _ =>
    obtain ⟨n, y, h0⟩ := hf 0 0 3 rfl
    obtain ⟨m, z, h1⟩ := hf 1 1 3 rfl
    rw [cells3] at h0 h1
    obtain ⟨a0, e0⟩ := int3 h0
    obtain ⟨a1, e1⟩ := int3 h1
    simp at e0 e1
    subst e0 e1
    exact ⟨_, _, rfl⟩
/-- Counts that are handed in. -/
theorem open_counts {v : Value} (h : DataW.trod enc Try.prog w base spare held fuel 39 v.cells.toList = some x) : ∃ a0 a1 : Int, v = .agg #[.int .i64 a0, .int .i64 a1] := by
  obtain ⟨a0, a1, e⟩ := ints39 h
  refine ⟨a0, a1, ?_⟩
  cases v with
  | agg a => simp only [Value.cells] at e; rw [← Array.toArray_toList (xs := a), e]
  | _ => simp [Value.cells] at e
end
end Go.Proofs.Ytlifpafnkagofaa.R
