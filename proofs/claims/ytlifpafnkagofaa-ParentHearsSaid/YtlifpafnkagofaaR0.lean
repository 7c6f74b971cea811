import Derived.Test.YtlifpafnkagofaaF9
import Derived.Test.YtlifpafnkagofaaF2
import Derived.Deep.SlicePairs
import Derived.ProofKit
import Derived.OpenShut
/- The laws' parameters, opened: a state, counts, a list of neighbours. -/
namespace Go.Proofs.Ytlifpafnkagofaa.R
open Go.RowKit Go.ChangeShapes Go.WideShapes Go.Proofs.Ytlifpafnkagofaa.S Go.Proofs.Ytlifpafnkagofaa.F
set_option linter.unusedVariables false
section
variable {H : Type} {enc : TypeId × Value → H} {w : World} {base : Nat} {spare : Nat → Bool} {held : Bool} {fuel : Nat} {cs : List Value} {x : DataW H × List MemPlace}
theorem und24 : ∃ fs, Try.prog.underlying 24 = some (.struct fs) ∧ (fs.toList.map fun f => (f.offset, f.type)) = [(0, 3), (1, 3), (2, 3), (3, 3), (4, 3), (5, 3)] := ⟨_, Try.underlying24, by kernel_rfl⟩
theorem und41 : ∃ fs, Try.prog.underlying 41 = some (.struct fs) ∧ (fs.toList.map fun f => (f.offset, f.type)) = [(0, 3), (1, 3), (2, 3), (3, 3), (4, 39)] := ⟨_, Try.underlying41, by kernel_rfl⟩
theorem und39 : ∃ fs, Try.prog.underlying 39 = some (.struct fs) ∧ (fs.toList.map fun f => (f.offset, f.type)) = [(0, 3), (1, 3)] := ⟨_, Try.underlying39, by kernel_rfl⟩
theorem cells3 : Try.prog.cellsOf 3 = 1 := by kernel_rfl
theorem cells24 : Try.prog.cellsOf 24 = 6 := by kernel_rfl
theorem cells39 : Try.prog.cellsOf 39 = 2 := by kernel_rfl
theorem cells41 : Try.prog.cellsOf 41 = 6 := by kernel_rfl
/-- Field i of a struct. -/
theorem field {t : TypeId} {l : List (Nat × Nat)} (hu : ∃ fs, Try.prog.underlying t = some (.struct fs) ∧ (fs.toList.map fun f => (f.offset, f.type)) = l) (h : DataW.trod enc Try.prog w base spare held fuel t cs = some x) :
    cs.length = Try.prog.cellsOf t ∧ ∀ (i : Nat) (o u : Nat), l[i]? = some (o, u) → ∃ n y, DataW.trod enc Try.prog w base spare held n u ((cs.drop o).take (Try.prog.cellsOf u)) = some y := by
  obtain ⟨fs, hfs, hl⟩ := hu
  obtain ⟨xs, n, _, _, hlen, hxl, hf⟩ := DataW.trod_struct hfs h
  refine ⟨hlen, fun i o u hi => ?_⟩
  rw [← hl, List.getElem?_map] at hi
  cases hfi : fs.toList[i]? with
  | none => rw [hfi] at hi; cases hi
  | some f =>
    rw [hfi] at hi
    simp only [Option.map_some, Option.some.injEq, Prod.mk.injEq] at hi
    obtain ⟨rfl, rfl⟩ := hi
    have hfi' : fs[i]? = some f := by simpa using hfi
    have hil : i < xs.length := by rw [hxl]; exact (Array.getElem?_eq_some_iff.1 hfi').1
    exact ⟨n, xs[i], by rw [hf i f hfi', List.getElem?_eq_getElem hil]⟩
theorem int3 {v : List Value} {n : Nat} {y : DataW H × List MemPlace} (h : DataW.trod enc Try.prog w base spare held n 3 v = some y) : ∃ k, v = [.int .i64 k] := by
  obtain ⟨k, e, _⟩ := DataW.trod_int Try.underlying3 h
  exact ⟨k, e⟩
theorem list6 {cs : List Value} (hl : cs.length = 6) (hk : ∀ i, i < 6 → ∃ k, (cs.drop i).take 1 = [Value.int .i64 k]) : ∃ a0 a1 a2 a3 a4 a5 : Int, cs = [.int .i64 a0, .int .i64 a1, .int .i64 a2, .int .i64 a3, .int .i64 a4, .int .i64 a5] := by
  match cs, hl with
  | [v0, v1, v2, v3, v4, v5], _ =>
    obtain ⟨a0, h0⟩ := hk 0 (by omega)
    obtain ⟨a1, h1⟩ := hk 1 (by omega)
    obtain ⟨a2, h2⟩ := hk 2 (by omega)
    obtain ⟨a3, h3⟩ := hk 3 (by omega)
    obtain ⟨a4, h4⟩ := hk 4 (by omega)
    obtain ⟨a5, h5⟩ := hk 5 (by omega)
    simp at h0 h1 h2 h3 h4 h5
    subst h0 h1 h2 h3 h4 h5
    exact ⟨_, _, _, _, _, _, rfl⟩
theorem ints24 (h : DataW.trod enc Try.prog w base spare held fuel 24 cs = some x) : ∃ a0 a1 a2 a3 a4 a5 : Int, cs = [.int .i64 a0, .int .i64 a1, .int .i64 a2, .int .i64 a3, .int .i64 a4, .int .i64 a5] := by
  obtain ⟨hl, hf⟩ := field und24 h
  rw [cells24] at hl
  refine list6 hl fun i hi => ?_
  have : ∃ n y, DataW.trod enc Try.prog w base spare held n 3 ((cs.drop i).take (Try.prog.cellsOf 3)) = some y := by
    match i, hi with
    | 0, _ => exact hf 0 0 3 rfl
    | 1, _ => exact hf 1 1 3 rfl
    | 2, _ => exact hf 2 2 3 rfl
    | 3, _ => exact hf 3 3 3 rfl
    | 4, _ => exact hf 4 4 3 rfl
    | 5, _ => exact hf 5 5 3 rfl
  obtain ⟨n, y, hy⟩ := this
  rw [cells3] at hy
  exact int3 hy
theorem ints41 (h : DataW.trod enc Try.prog w base spare held fuel 41 cs = some x) : ∃ a0 a1 a2 a3 a4 a5 : Int, cs = [.int .i64 a0, .int .i64 a1, .int .i64 a2, .int .i64 a3, .int .i64 a4, .int .i64 a5] := by
  obtain ⟨hl, hf⟩ := field und41 h
  rw [cells41] at hl
  obtain ⟨n, y, hc⟩ := hf 4 4 39 rfl
  obtain ⟨_, hg⟩ := field und39 hc
  rw [cells39] at hg
  refine list6 hl fun i hi => ?_
  have : ∃ n y, DataW.trod enc Try.prog w base spare held n 3 ((cs.drop i).take (Try.prog.cellsOf 3)) = some y := by
    match i, hi with
    | 0, _ => exact hf 0 0 3 rfl
    | 1, _ => exact hf 1 1 3 rfl
    | 2, _ => exact hf 2 2 3 rfl
    | 3, _ => exact hf 3 3 3 rfl
    | 4, _ =>
      obtain ⟨n, y, hy⟩ := hg 0 0 3 rfl
      rw [cells3] at hy
      refine ⟨n, y, ?_⟩
      rw [cells3, ← hy]
      match cs, hl with
      | [v0, v1, v2, v3, v4, v5], _ => rfl
    | 5, _ =>
      obtain ⟨n, y, hy⟩ := hg 1 1 3 rfl
      rw [cells3] at hy
      refine ⟨n, y, ?_⟩
      rw [cells3, ← hy]
      match cs, hl with
      | [v0, v1, v2, v3, v4, v5], _ => rfl
  obtain ⟨n, y, hy⟩ := this
  rw [cells3] at hy
  exact int3 hy
theorem agg6 {v : Value} {l : List Value} (h : v.cells.toList = l) (hl : l.length = 6) : v = .agg l.toArray := by
  cases v with
  | agg a => simp only [Value.cells] at h; rw [← h]
  | _ => simp [Value.cells] at h; rw [← h] at hl; simp at hl
/-- A state that is handed in. -/
theorem open_ranked {v : Value} (h : DataW.trod enc Try.prog w base spare held fuel 24 v.cells.toList = some x) : ∃ a0 a1 a2 a3 a4 a5 : Int, v = .agg #[.int .i64 a0, .int .i64 a1, .int .i64 a2, .int .i64 a3, .int .i64 a4, .int .i64 a5] := by
  obtain ⟨a0, a1, a2, a3, a4, a5, e⟩ := ints24 h
  exact ⟨a0, a1, a2, a3, a4, a5, agg6 e rfl⟩
/-- A list of neighbours that is handed in. -/
theorem open_nbs {a : Option Addr} {len cap : Nat} (h : DataW.trod enc Try.prog w base spare held fuel 22 [.slice a len cap] = some x) :
    ∃ l : List Nb, len = l.length ∧ l.length ≤ cap ∧ Rd w a l := by
  rcases Deep.open_slice Try.underlying22 h with ⟨hcs, _⟩ | ⟨k, ln, cp, m, n, D, Pl, hcs, hb, hl, hm, hmm, _, hx⟩
  · simp at hcs
    obtain ⟨rfl, rfl, rfl⟩ := hcs
    exact ⟨[], rfl, Nat.le_refl _, by simp, fun h => by simp at h⟩
  · simp at hcs
    obtain ⟨rfl, rfl, rfl⟩ := hcs
    have hlm : len ≤ m := by rw [hmm]; split <;> omega
    have each : ∀ i, i < len → ∃ q : Nb, w.cell? (k.add (i * 6)) = some (.int .i64 q.nd) ∧ w.cell? ((k.add (i * 6)).add 1) = some (.int .i64 q.ep) ∧ w.cell? ((k.add (i * 6)).add 2) = some (.int .i64 q.ra) ∧
        w.cell? ((k.add (i * 6)).add 3) = some (.int .i64 q.sl) ∧ w.cell? ((k.add (i * 6)).add 4) = some (.int .i64 q.c.at_) ∧ w.cell? ((k.add (i * 6)).add 5) = some (.int .i64 q.c.ak) := by
      intro i hi
      obtain ⟨cs', h1, h2⟩ := hx i (by omega)
      rw [cells41] at h1
      obtain ⟨_, hlen, hcell⟩ := World.cells?_some h1
      obtain ⟨a0, a1, a2, a3, a4, a5, rfl⟩ := ints41 h2
      exact ⟨⟨a0, a1, a2, a3, ⟨a4, a5⟩⟩, by simpa [Addr.add] using hcell 0 (by omega), hcell 1 (by omega), hcell 2 (by omega), hcell 3 (by omega), hcell 4 (by omega), hcell 5 (by omega)⟩
    obtain ⟨q, hq⟩ := Deep.choose_lt each
    refine ⟨(List.range len).map q, by simp, by simpa using hl, by simp [maxLen] at hm ⊢; omega, fun hpos => ?_⟩
    simp only [List.length_map, List.length_range] at hpos
    have h0 := (hq 0 hpos).1
    have hsp : k.spot = none := by simpa [Addr.add] using World.cell?_spot h0
    obtain ⟨b, off, sp⟩ := k
    dsimp only at hsp
    subst hsp
    refine ⟨b, off, rfl, ?_, fun j hj => ?_⟩
    · exact World.block_lt_of_cell? w ⟨b, off, none⟩ (by simpa [Addr.add] using h0)
    · simp only [List.length_map, List.length_range] at hj
      have hn : nth ((List.range len).map q) j = q j := by rw [nth_eq _ _ (by simpa using hj)]; simp
      rw [hn]
      obtain ⟨e0, e1, e2, e3, e4, e5⟩ := hq j hj
      have pl : ∀ z : Nat, (⟨b, off, none⟩ : Addr).add z = ⟨b, off + z, none⟩ := fun z => by unfold Addr.add; split <;> simp_all
      have pl2 : ∀ y z : Nat, (⟨b, y, none⟩ : Addr).add z = ⟨b, y + z, none⟩ := fun y z => by unfold Addr.add; split <;> simp_all
      rw [pl] at e0 e1 e2 e3 e4 e5
      rw [pl2] at e1 e2 e3 e4 e5
      exact ⟨e0, e1, e2, e3, e4, e5⟩
end
end Go.Proofs.Ytlifpafnkagofaa.R
