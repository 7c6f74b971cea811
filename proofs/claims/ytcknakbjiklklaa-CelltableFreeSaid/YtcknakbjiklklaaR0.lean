import Derived.Test.YtcknakbjiklklaaF10
import Derived.Test.YtcknakbjiklklaaF3
import Derived.Test.YtcknakbjiklklaaF15
import Derived.Deep.SlicePairs
import Derived.ProofKit
import Derived.OpenShut
/- The laws' parameters, opened: tables, cells, schedules, masks, places. -/
namespace Go.Proofs.Ytcknakbjiklklaa.R
open Go.RowKit Go.ChangeShapes Go.WideShapes Go.Proofs.Ytcknakbjiklklaa.S Go.Proofs.Ytcknakbjiklklaa.F
set_option linter.unusedVariables false
section
variable {H : Type} {enc : TypeId × Value → H} {w : World} {base : Nat} {spare : Nat → Bool} {held : Bool} {fuel : Nat} {cs : List Value} {x : DataW H × List MemPlace}
theorem und24 : ∃ fs, Try.prog.underlying 24 = some (.struct fs) ∧ (fs.toList.map fun f => (f.offset, f.type)) = [(0, 3), (1, 3), (2, 22)] := ⟨_, Try.underlying24, by kernel_rfl⟩
theorem und31 : ∃ fs, Try.prog.underlying 31 = some (.struct fs) ∧ (fs.toList.map fun f => (f.offset, f.type)) = [(0, 3), (1, 3), (2, 29)] := ⟨_, Try.underlying31, by kernel_rfl⟩
theorem und43 : ∃ fs, Try.prog.underlying 43 = some (.struct fs) ∧ (fs.toList.map fun f => (f.offset, f.type)) = [(0, 3), (1, 3), (2, 3), (3, 4), (4, 3), (5, 3)] := ⟨_, Try.underlying43, by kernel_rfl⟩
theorem und45 : ∃ fs, Try.prog.underlying 45 = some (.struct fs) ∧ (fs.toList.map fun f => (f.offset, f.type)) = [(0, 3), (1, 3), (2, 3), (3, 3), (4, 3)] := ⟨_, Try.underlying45, by kernel_rfl⟩
theorem und55 : ∃ fs, Try.prog.underlying 55 = some (.struct fs) ∧ (fs.toList.map fun f => (f.offset, f.type)) = [(0, 3), (1, 3)] := ⟨_, Try.underlying55, by kernel_rfl⟩
theorem cells3 : Try.prog.cellsOf 3 = 1 := by kernel_rfl
theorem cells4 : Try.prog.cellsOf 4 = 1 := by kernel_rfl
theorem cells22 : Try.prog.cellsOf 22 = 1 := by kernel_rfl
theorem cells29 : Try.prog.cellsOf 29 = 1 := by kernel_rfl
theorem cells24 : Try.prog.cellsOf 24 = 3 := by kernel_rfl
theorem cells31 : Try.prog.cellsOf 31 = 3 := by kernel_rfl
theorem cells43 : Try.prog.cellsOf 43 = 6 := by kernel_rfl
theorem cells45 : Try.prog.cellsOf 45 = 5 := by kernel_rfl
theorem cells55 : Try.prog.cellsOf 55 = 2 := by kernel_rfl
/-- Field i of a struct. -/
theorem field {t : TypeId} {l : List (Nat × Nat)} (hu : ∃ fs, Try.prog.underlying t = some (.struct fs) ∧ (fs.toList.map fun f => (f.offset, f.type)) = l) (h : DataW.trod enc Try.prog w base spare held fuel t cs = some x) :
    cs.length = Try.prog.cellsOf t ∧ ∀ (i : Nat) (o u : Nat), l[i]? = some (o, u) → ∃ n y, DataW.trod enc Try.prog w base spare held n u ((cs.drop o).take (Try.prog.cellsOf u)) = some y := by
  obtain ⟨fs, hfs, hl⟩ := hu
  obtain ⟨xs, n, _, _, hlen, hxl, hf⟩ := DataW.trod_struct hfs h
  refine ⟨hlen, fun i o u hi => ?_⟩
  rw [← hl, List.getElem?_map] at hi
  cases hfi : fs.toList[i]? with
  | none => rw [hfi] at hi; cases hi
  | some f =>
    rw [hfi] at hi
    simp only [Option.map_some, Option.some.injEq, Prod.mk.injEq] at hi
    obtain ⟨rfl, rfl⟩ := hi
    have hfi' : fs[i]? = some f := by simpa using hfi
    have hil : i < xs.length := by rw [hxl]; exact (Array.getElem?_eq_some_iff.1 hfi').1
    exact ⟨n, xs[i], by rw [hf i f hfi', List.getElem?_eq_getElem hil]⟩
theorem int3 {v : List Value} {n : Nat} {y : DataW H × List MemPlace} (h : DataW.trod enc Try.prog w base spare held n 3 v = some y) : ∃ k, v = [.int .i64 k] := by
  obtain ⟨k, e, _⟩ := DataW.trod_int Try.underlying3 h
  exact ⟨k, e⟩
theorem bool4 {v : List Value} {n : Nat} {y : DataW H × List MemPlace} (h : DataW.trod enc Try.prog w base spare held n 4 v = some y) : ∃ k, v = [.bool k] := by
  obtain ⟨k, e, _⟩ := DataW.trod_bool Try.underlying4 h
  exact ⟨k, e⟩
theorem vals43 (h : DataW.trod enc Try.prog w base spare held fuel 43 cs = some x) : ∃ q : TC, cs = [.int .i64 q.sl, .int .i64 q.off, .int .i64 q.ki, .bool q.se, .int .i64 q.pe, .int .i64 q.fl] := by
  obtain ⟨hl, hf⟩ := field und43 h
  rw [cells43] at hl
  match cs, hl with
  | [v0, v1, v2, v3, v4, v5], _ =>
    obtain ⟨_, _, h0⟩ := hf 0 0 3 rfl
    obtain ⟨_, _, h1⟩ := hf 1 1 3 rfl
    obtain ⟨_, _, h2⟩ := hf 2 2 3 rfl
    obtain ⟨_, _, h3⟩ := hf 3 3 4 rfl
    obtain ⟨_, _, h4⟩ := hf 4 4 3 rfl
    obtain ⟨_, _, h5⟩ := hf 5 5 3 rfl
    rw [cells3] at h0 h1 h2 h4 h5
    rw [cells4] at h3
    obtain ⟨a0, e0⟩ := int3 h0
    obtain ⟨a1, e1⟩ := int3 h1
    obtain ⟨a2, e2⟩ := int3 h2
    obtain ⟨a3, e3⟩ := bool4 h3
    obtain ⟨a4, e4⟩ := int3 h4
    obtain ⟨a5, e5⟩ := int3 h5
    simp at e0 e1 e2 e3 e4 e5
    subst e0 e1 e2 e3 e4 e5
    exact ⟨⟨a0, a1, a2, a3, a4, a5⟩, rfl⟩
theorem vals45 (h : DataW.trod enc Try.prog w base spare held fuel 45 cs = some x) : ∃ q : SC, cs = [.int .i64 q.sl, .int .i64 q.off, .int .i64 q.fr, .int .i64 q.tt, .int .i64 q.fl] := by
  obtain ⟨hl, hf⟩ := field und45 h
  rw [cells45] at hl
  match cs, hl with
  | [v0, v1, v2, v3, v4], _ =>
    obtain ⟨_, _, h0⟩ := hf 0 0 3 rfl
    obtain ⟨_, _, h1⟩ := hf 1 1 3 rfl
    obtain ⟨_, _, h2⟩ := hf 2 2 3 rfl
    obtain ⟨_, _, h3⟩ := hf 3 3 3 rfl
    obtain ⟨_, _, h4⟩ := hf 4 4 3 rfl
    rw [cells3] at h0 h1 h2 h3 h4
    obtain ⟨a0, e0⟩ := int3 h0
    obtain ⟨a1, e1⟩ := int3 h1
    obtain ⟨a2, e2⟩ := int3 h2
    obtain ⟨a3, e3⟩ := int3 h3
    obtain ⟨a4, e4⟩ := int3 h4
    simp at e0 e1 e2 e3 e4
    subst e0 e1 e2 e3 e4
    exact ⟨⟨a0, a1, a2, a3, a4⟩, rfl⟩
theorem agg_of {v : Value} {l : List Value} (h : v.cells.toList = l) (hl : l.length ≠ 1) : v = .agg l.toArray := by
  cases v with
  | agg a => simp only [Value.cells] at h; rw [← h]
  | _ => simp [Value.cells] at h; rw [← h] at hl; simp at hl
/-- A place or a cell that is handed in. -/
theorem open_cell {v : Value} (h : DataW.trod enc Try.prog w base spare held fuel 43 v.cells.toList = some x) : ∃ q : TC, v = vT q := by
  obtain ⟨q, e⟩ := vals43 h
  exact ⟨q, agg_of e (by simp)⟩
theorem open_spot {v : Value} (h : DataW.trod enc Try.prog w base spare held fuel 55 v.cells.toList = some x) : ∃ a b : Int, v = .agg #[.int .i64 a, .int .i64 b] := by
  obtain ⟨hl, hf⟩ := field und55 h
  rw [cells55] at hl
  obtain ⟨_, _, h0⟩ := hf 0 0 3 rfl
  obtain ⟨_, _, h1⟩ := hf 1 1 3 rfl
  generalize hcs : v.cells.toList = cs at *
  match cs, hl with
  | [v0, v1], _ =>
    rw [cells3] at h0 h1
    obtain ⟨a0, e0⟩ := int3 h0
    obtain ⟨a1, e1⟩ := int3 h1
    simp at e0 e1
    subst e0 e1
    exact ⟨a0, a1, agg_of hcs (by simp)⟩
/-- A list of cells. -/
theorem open_tcs (h : DataW.trod enc Try.prog w base spare held fuel 22 cs = some x) : ∃ (A : Option Addr) (c : Nat) (l : List TC), cs = [.slice A l.length c] ∧ l.length ≤ c ∧ Rd w A l := by
  rcases Deep.open_slice Try.underlying22 h with ⟨hcs, _⟩ | ⟨k, len, cp, m, n, D, Pl, hcs, hb, hl, hm, hmm, _, hx⟩
  · exact ⟨none, 0, [], hcs, Nat.le_refl _, by simp, fun h => by simp at h⟩
  · have hlm : len ≤ m := by rw [hmm]; split <;> omega
    have each : ∀ i, i < len → ∃ q : TC, w.cell? (k.add (i * 6)) = some (.int .i64 q.sl) ∧ w.cell? ((k.add (i * 6)).add 1) = some (.int .i64 q.off) ∧ w.cell? ((k.add (i * 6)).add 2) = some (.int .i64 q.ki) ∧
        w.cell? ((k.add (i * 6)).add 3) = some (.bool q.se) ∧ w.cell? ((k.add (i * 6)).add 4) = some (.int .i64 q.pe) ∧ w.cell? ((k.add (i * 6)).add 5) = some (.int .i64 q.fl) := by
      intro i hi
      obtain ⟨cs', h1, h2⟩ := hx i (by omega)
      rw [cells43] at h1
      obtain ⟨_, hlen, hcell⟩ := World.cells?_some h1
      obtain ⟨q, rfl⟩ := vals43 h2
      exact ⟨q, by simpa [Addr.add] using hcell 0 (by omega), hcell 1 (by omega), hcell 2 (by omega), hcell 3 (by omega), hcell 4 (by omega), hcell 5 (by omega)⟩
    obtain ⟨q, hq⟩ := Deep.choose_lt each
    refine ⟨some k, cp, (List.range len).map q, by simpa using hcs, by simpa using hl, by simp [maxLen] at hm ⊢; omega, fun hpos => ?_⟩
    simp only [List.length_map, List.length_range] at hpos
    have h0 := (hq 0 hpos).1
    have hsp : k.spot = none := by simpa [Addr.add] using World.cell?_spot h0
    obtain ⟨b, off, sp⟩ := k
    dsimp only at hsp
    subst hsp
    refine ⟨b, off, rfl, ?_, fun j hj => ?_⟩
    · exact World.block_lt_of_cell? w ⟨b, off, none⟩ (by simpa [Addr.add] using h0)
    · simp only [List.length_map, List.length_range] at hj
      have hn : nth ((List.range len).map q) j = q j := by rw [nth_eq _ _ (by simpa using hj)]; simp
      rw [hn]
      obtain ⟨e0, e1, e2, e3, e4, e5⟩ := hq j hj
      rw [Addr.add_lit] at e0 e1 e2 e3 e4 e5
      rw [Addr.add_lit] at e1 e2 e3 e4 e5
      exact ⟨e0, e1, e2, e3, e4, e5⟩
/-- A schedule's cells. -/
theorem open_scs (h : DataW.trod enc Try.prog w base spare held fuel 29 cs = some x) : ∃ (A : Option Addr) (c : Nat) (l : List SC), cs = [.slice A l.length c] ∧ l.length ≤ c ∧ RdS w A l := by
  rcases Deep.open_slice Try.underlying29 h with ⟨hcs, _⟩ | ⟨k, len, cp, m, n, D, Pl, hcs, hb, hl, hm, hmm, _, hx⟩
  · exact ⟨none, 0, [], hcs, Nat.le_refl _, by simp, fun h => by simp at h⟩
  · have hlm : len ≤ m := by rw [hmm]; split <;> omega
    have each : ∀ i, i < len → ∃ q : SC, w.cell? (k.add (i * 5)) = some (.int .i64 q.sl) ∧ w.cell? ((k.add (i * 5)).add 1) = some (.int .i64 q.off) ∧ w.cell? ((k.add (i * 5)).add 2) = some (.int .i64 q.fr) ∧
        w.cell? ((k.add (i * 5)).add 3) = some (.int .i64 q.tt) ∧ w.cell? ((k.add (i * 5)).add 4) = some (.int .i64 q.fl) := by
      intro i hi
      obtain ⟨cs', h1, h2⟩ := hx i (by omega)
      rw [cells45] at h1
      obtain ⟨_, hlen, hcell⟩ := World.cells?_some h1
      obtain ⟨q, rfl⟩ := vals45 h2
      exact ⟨q, by simpa [Addr.add] using hcell 0 (by omega), hcell 1 (by omega), hcell 2 (by omega), hcell 3 (by omega), hcell 4 (by omega)⟩
    obtain ⟨q, hq⟩ := Deep.choose_lt each
    refine ⟨some k, cp, (List.range len).map q, by simpa using hcs, by simpa using hl, by simp [maxLen] at hm ⊢; omega, fun hpos => ?_⟩
    simp only [List.length_map, List.length_range] at hpos
    have h0 := (hq 0 hpos).1
    have hsp : k.spot = none := by simpa [Addr.add] using World.cell?_spot h0
    obtain ⟨b, off, sp⟩ := k
    dsimp only at hsp
    subst hsp
    refine ⟨b, off, rfl, ?_, fun j hj => ?_⟩
    · exact World.block_lt_of_cell? w ⟨b, off, none⟩ (by simpa [Addr.add] using h0)
    · simp only [List.length_map, List.length_range] at hj
      have hn : nth ((List.range len).map q) j = q j := by rw [nth_eq _ _ (by simpa using hj)]; simp
      rw [hn]
      obtain ⟨e0, e1, e2, e3, e4⟩ := hq j hj
      rw [Addr.add_lit] at e0 e1 e2 e3 e4
      rw [Addr.add_lit] at e1 e2 e3 e4
      exact ⟨e0, e1, e2, e3, e4⟩
/-- A table that is handed in. -/
theorem open_table {v : Value} (h : DataW.trod enc Try.prog w base spare held fuel 24 v.cells.toList = some x) : ∃ (n len : Int) (A : Option Addr) (c : Nat) (l : List TC), v = .agg #[.int .i64 n, .int .i64 len, .slice A l.length c] ∧ l.length ≤ c ∧ Rd w A l := by
  obtain ⟨hl, hf⟩ := field und24 h
  rw [cells24] at hl
  obtain ⟨_, _, h0⟩ := hf 0 0 3 rfl
  obtain ⟨_, _, h1⟩ := hf 1 1 3 rfl
  obtain ⟨_, _, h2⟩ := hf 2 2 22 rfl
  generalize hcs : v.cells.toList = cs at *
  match cs, hl with
  | [v0, v1, v2], _ =>
    rw [cells3] at h0 h1
    rw [cells22] at h2
    obtain ⟨a0, e0⟩ := int3 h0
    obtain ⟨a1, e1⟩ := int3 h1
    obtain ⟨A, c, l, e2, hc, hr⟩ := open_tcs h2
    simp at e0 e1 e2
    subst e0 e1 e2
    exact ⟨a0, a1, A, c, l, agg_of hcs (by simp), hc, hr⟩
/-- A schedule that is handed in. -/
theorem open_sched {v : Value} (h : DataW.trod enc Try.prog w base spare held fuel 31 v.cells.toList = some x) : ∃ (len offs : Int) (A : Option Addr) (c : Nat) (l : List SC), v = .agg #[.int .i64 len, .int .i64 offs, .slice A l.length c] ∧ l.length ≤ c ∧ RdS w A l := by
  obtain ⟨hl, hf⟩ := field und31 h
  rw [cells31] at hl
  obtain ⟨_, _, h0⟩ := hf 0 0 3 rfl
  obtain ⟨_, _, h1⟩ := hf 1 1 3 rfl
  obtain ⟨_, _, h2⟩ := hf 2 2 29 rfl
  generalize hcs : v.cells.toList = cs at *
  match cs, hl with
  | [v0, v1, v2], _ =>
    rw [cells3] at h0 h1
    rw [cells29] at h2
    obtain ⟨a0, e0⟩ := int3 h0
    obtain ⟨a1, e1⟩ := int3 h1
    obtain ⟨A, c, l, e2, hc, hr⟩ := open_scs h2
    simp at e0 e1 e2
    subst e0 e1 e2
    exact ⟨a0, a1, A, c, l, agg_of hcs (by simp), hc, hr⟩
/-- A mask that is handed in. -/
theorem open_free {a : Option Addr} {len cap : Nat} (h : DataW.trod enc Try.prog w base spare held fuel 36 [.slice a len cap] = some x) :
    ∃ l : List Int, len = l.length ∧ l.length ≤ cap ∧ RdI w a l := by
  rcases Deep.open_slice1 Try.underlying36 cells3 h with ⟨hcs, _⟩ | ⟨k, ln, cp, m, n, V, D, Pl, hcs, hb, hl, hm, hmm, _, hx⟩
  · simp at hcs
    obtain ⟨rfl, rfl, rfl⟩ := hcs
    exact ⟨[], rfl, Nat.le_refl _, by simp, fun h => by simp at h⟩
  · simp at hcs
    obtain ⟨rfl, rfl, rfl⟩ := hcs
    have hlm : len ≤ m := by rw [hmm]; split <;> omega
    have each : ∀ i, i < len → ∃ q : Int, w.cell? (k.add i) = some (.int .i64 q) := by
      intro i hi
      obtain ⟨h1, h2⟩ := hx i (by omega)
      obtain ⟨b, e⟩ := int3 h2
      simp at e
      exact ⟨b, by rw [h1, e]⟩
    obtain ⟨q, hq⟩ := Deep.choose_lt each
    refine ⟨(List.range len).map q, by simp, by simpa using hl, by simp [maxLen] at hm ⊢; omega, fun hpos => ?_⟩
    simp only [List.length_map, List.length_range] at hpos
    have h0 := hq 0 hpos
    have hsp : k.spot = none := by simpa [Addr.add] using World.cell?_spot h0
    obtain ⟨b, off, sp⟩ := k
    dsimp only at hsp
    subst hsp
    refine ⟨b, off, rfl, World.block_lt_of_cell? w _ h0, fun j hj => ?_⟩
    simp only [List.length_map, List.length_range] at hj
    have hn : nth ((List.range len).map q) j = q j := by rw [nth_eq _ _ (by simpa using hj)]; simp
    rw [hn, ← hq j hj, Addr.add_lit]
end
end Go.Proofs.Ytcknakbjiklklaa.R
