import Derived.Test.YtlifpafnkagofaaR0
/- Two more openers: counts, a list of marks. -/
namespace Go.Proofs.Ytlifpafnkagofaa.R
open Go.RowKit Go.ChangeShapes Go.WideShapes Go.Proofs.Ytlifpafnkagofaa.S Go.Proofs.Ytlifpafnkagofaa.F
set_option linter.unusedVariables false
/-- A list of marks that is read. -/
def _root_.Go.Proofs.Ytlifpafnkagofaa.F.RdB (w : World) (A : Option Addr) (l : List Bool) : Prop :=
  l.length ≤ 9223372036854775807 ∧ (0 < l.length → ∃ b off, A = some ⟨b, off, none⟩ ∧ b < w.heap.size ∧ ∀ j, j < l.length → w.cell? ⟨b, off + j, none⟩ = some (.bool (nth l j)))
section
variable {H : Type} {enc : TypeId × Value → H} {w : World} {base : Nat} {spare : Nat → Bool} {held : Bool} {fuel : Nat} {cs : List Value} {x : DataW H × List MemPlace}
theorem ints39 (h : DataW.trod enc Try.prog w base spare held fuel 39 cs = some x) : ∃ a0 a1 : Int, cs = [.int .i64 a0, .int .i64 a1] := by
  obtain ⟨hl, hf⟩ := field und39 h
  rw [cells39] at hl
  match cs, hl with
  | [v0, v1], _ =>
    obtain ⟨n, y, h0⟩ := hf 0 0 3 rfl
    obtain ⟨m, z, h1⟩ := hf 1 1 3 rfl
    rw [cells3] at h0 h1
    obtain ⟨a0, e0⟩ := int3 h0
    obtain ⟨a1, e1⟩ := int3 h1
    simp at e0 e1
    subst e0 e1
    exact ⟨_, _, rfl⟩
/-- Counts that are handed in. -/
theorem open_counts {v : Value} (h : DataW.trod enc Try.prog w base spare held fuel 39 v.cells.toList = some x) : ∃ a0 a1 : Int, v = .agg #[.int .i64 a0, .int .i64 a1] := by
  obtain ⟨a0, a1, e⟩ := ints39 h
  refine ⟨a0, a1, ?_⟩
  cases v with
  | agg a => simp only [Value.cells] at e; rw [← Array.toArray_toList (xs := a), e]
  | _ => simp [Value.cells] at e
theorem cells4 : Try.prog.cellsOf 4 = 1 := by kernel_rfl
/-- A list of marks that is handed in. -/
theorem open_bools {a : Option Addr} {len cap : Nat} (h : DataW.trod enc Try.prog w base spare held fuel 52 [.slice a len cap] = some x) :
    ∃ l : List Bool, len = l.length ∧ l.length ≤ cap ∧ RdB w a l := by
  rcases Deep.open_slice1 Try.underlying52 cells4 h with ⟨hcs, _⟩ | ⟨k, ln, cp, m, n, V, D, Pl, hcs, hb, hl, hm, hmm, _, hx⟩
  · simp at hcs
    obtain ⟨rfl, rfl, rfl⟩ := hcs
    exact ⟨[], rfl, Nat.le_refl _, by simp, fun h => by simp at h⟩
  · simp at hcs
    obtain ⟨rfl, rfl, rfl⟩ := hcs
    have hlm : len ≤ m := by rw [hmm]; split <;> omega
    have each : ∀ i, i < len → ∃ q : Bool, w.cell? (k.add i) = some (.bool q) := by
      intro i hi
      obtain ⟨h1, h2⟩ := hx i (by omega)
      obtain ⟨b, e, _⟩ := DataW.trod_bool Try.underlying4 h2
      simp at e
      exact ⟨b, by rw [h1, e]⟩
    obtain ⟨q, hq⟩ := Deep.choose_lt each
    refine ⟨(List.range len).map q, by simp, by simpa using hl, by simp [maxLen] at hm ⊢; omega, fun hpos => ?_⟩
    simp only [List.length_map, List.length_range] at hpos
    have h0 := hq 0 hpos
    have hsp : k.spot = none := by simpa [Addr.add] using World.cell?_spot h0
    obtain ⟨b, off, sp⟩ := k
    dsimp only at hsp
    subst hsp
    refine ⟨b, off, rfl, World.block_lt_of_cell? w _ h0, fun j hj => ?_⟩
    simp only [List.length_map, List.length_range] at hj
    have hn : nth ((List.range len).map q) j = q j := by rw [nth_eq _ _ (by simpa using hj)]; simp
    rw [hn, ← hq j hj, Addr.add_lit]
end
end Go.Proofs.Ytlifpafnkagofaa.R
