import Derived.Test.YtcknakbjiklklaaF15
import Derived.Test.YtcknakbjiklklaaF33
import Derived.Test.YtcknakbjiklklaaS13
/- What the law Free carries from round to round. -/
namespace Go.Proofs.Ytcknakbjiklklaa.F
open Go.RowKit Go.Sort Go.Proofs.Ytcknakbjiklklaa.B Go.Proofs.Ytcknakbjiklklaa.S
set_option linter.unusedVariables false
theorem PT.out {r : Tb × Int} {w : World} {e : Ending} {w' : World} (h : PT r w e w') : ∃ (A : Option Addr) (c : Nat), e = .returned (.tuple #[.agg #[.int .i64 r.1.n, .int .i64 r.1.len, .slice A r.1.l.length c], .int .i64 r.2]) ∧ r.1.l.length ≤ c ∧ Ow w' w.heap.size (.slice A r.1.l.length c) r.1.l ∧ Bl w w' := by
  obtain ⟨v, he, ho, hb⟩ := h
  obtain ⟨A, c, rfl, hc, hr⟩ := ho.rd
  exact ⟨A, c, he, hc, ho, hb⟩
theorem RdP.pre {w : World} {A : Option Addr} {l : List Sp} (h : RdP w A l) {k : Nat} (hk : k ≤ l.length) : RdP w A (l.take k) := by
  have hlen : (l.take k).length = k := by rw [List.length_take]; omega
  refine ⟨by rw [hlen]; exact Nat.le_trans hk h.1, fun hp => ?_⟩
  rw [hlen] at hp ⊢
  obtain ⟨b, off, e, hb, hc⟩ := h.2 (by omega)
  refine ⟨b, off, e, hb, fun j hj => ?_⟩
  have : nth (l.take k) j = nth l j := by rw [nth_eq _ _ (by omega), nth_eq l j (by omega), List.getElem_take]
  rw [this]
  exact hc j (by omega)
/-- A list of cells that lies in neither of two boxes. -/
def RdF (w : World) (p q : Nat) (A : Option Addr) (l : List TC) : Prop :=
  l.length ≤ 9223372036854775807 ∧ (0 < l.length → ∃ b off, A = some ⟨b, off, none⟩ ∧ b < w.heap.size ∧ (b ≠ p ∧ b ≠ q) ∧ ∀ j, j < l.length → C43 w b (off + j * 6) (nth l j))
theorem RdF.rd {w : World} {p q : Nat} {A : Option Addr} {l : List TC} (h : RdF w p q A l) : Rd w A l :=
  ⟨h.1, fun hl => by obtain ⟨b, off, e, hb, _, hc⟩ := h.2 hl; exact ⟨b, off, e, hb, hc⟩⟩
theorem RdF.bl {w W : World} {p q : Nat} {A : Option Addr} {l : List TC} (h : RdF w p q A l) (hg : Bl w W) : RdF W p q A l := by
  refine ⟨h.1, fun hl => ?_⟩
  obtain ⟨b, off, e, hb, hn, hc⟩ := h.2 hl
  refine ⟨b, off, e, Nat.lt_of_lt_of_le hb hg.size, hn, fun j hj => ?_⟩
  have hf : ∀ o, W.cell? ⟨b, o, none⟩ = w.cell? ⟨b, o, none⟩ := fun o => Below.cell hg (p := ⟨b, o, none⟩) hb
  unfold C43
  simp only [hf]
  exact hc j hj
theorem RdF.set {w : World} {p q : Nat} {A : Option Addr} {l : List TC} (h : RdF w p q A l) {r i : Nat} (hr : r = p ∨ r = q) (v : Value) : RdF (w.setCell ⟨r, i, none⟩ v) p q A l := by
  refine ⟨h.1, fun hl => ?_⟩
  obtain ⟨b, off, e, hb, hn, hc⟩ := h.2 hl
  have hg := Lib.grownBy_setCell w r i v
  refine ⟨b, off, e, Nat.lt_of_lt_of_le hb hg.size, hn, fun j hj => ?_⟩
  have hne : some b ≠ some r := by rcases hr with rfl | rfl <;> simp [hn.1, hn.2]
  have hf : ∀ o, (w.setCell ⟨r, i, none⟩ v).cell? ⟨b, o, none⟩ = w.cell? ⟨b, o, none⟩ := fun o => World.grownBy.cell_far hg ⟨b, o, none⟩ hb hne
  unfold C43
  simp only [hf]
  exact hc j hj
theorem RdF.old {w0 w : World} {p q : Nat} {A : Option Addr} {l : List TC} (h : Rd w0 A l) (hb : Bl w0 w) (hp : w0.heap.size ≤ p) (hq : w0.heap.size ≤ q) : RdF w p q A l := by
  have h' := h.bl hb
  refine ⟨h.1, fun hl => ?_⟩
  obtain ⟨b, off, e, hb0, _⟩ := h.2 hl
  obtain ⟨b', off', e', hb', hc'⟩ := h'.2 hl
  rw [e] at e'
  simp only [Option.some.injEq, Addr.mk.injEq, and_true] at e'
  obtain ⟨rfl, rfl⟩ := e'
  exact ⟨b, off, e, hb', ⟨by omega, by omega⟩, hc'⟩
theorem RdF.own {w : World} {base p q : Nat} {A : Option Addr} {c : Nat} {l : List TC} (h : Ow w base (.slice A l.length c) l) (hp : p < base) (hq : q < base) : RdF w p q A l := by
  obtain ⟨A', c', e, hc, hr⟩ := h.rd
  simp only [Value.slice.injEq, true_and] at e
  obtain ⟨rfl, rfl⟩ := e
  refine ⟨hr.1, fun hl => ?_⟩
  obtain ⟨b, off, e, hb, hcell⟩ := hr.2 hl
  obtain ⟨g, cap, e2, hg, _⟩ := h.form hl
  rw [e] at e2
  simp only [Value.slice.injEq, Option.some.injEq, Addr.mk.injEq, and_true, true_and] at e2
  obtain ⟨⟨rfl, rfl⟩, _⟩ := e2
  exact ⟨b, 0, e, hb, ⟨by omega, by omega⟩, hcell⟩
theorem cell_set {w : World} {r i b o : Nat} {v : Value} (hb : b < w.heap.size) (hne : b ≠ r) : (w.setCell ⟨r, i, none⟩ v).cell? ⟨b, o, none⟩ = w.cell? ⟨b, o, none⟩ :=
  World.grownBy.cell_far (Lib.grownBy_setCell w r i v) ⟨b, o, none⟩ hb (by simp [hne])
theorem frozen_set {w : World} {r i b o : Nat} {v : Value} (hb : b < w.heap.size) (hne : b ≠ r) : (w.setCell ⟨r, i, none⟩ v).frozen? ⟨b, o, none⟩ = w.frozen? ⟨b, o, none⟩ :=
  World.grownBy.frozen_far (Lib.grownBy_setCell w r i v) ⟨b, o, none⟩ hb (by simp [hne])
theorem size_set (w : World) (r i : Nat) (v : Value) : w.heap.size ≤ (w.setCell ⟨r, i, none⟩ v).heap.size := (Lib.grownBy_setCell w r i v).size
theorem T3.set {w : World} {b : Nat} {n len : Int} {u : Value} (h : T3 w b n len u) {r i : Nat} {v : Value} (hne : b ≠ r) : T3 (w.setCell ⟨r, i, none⟩ v) b n len u :=
  ⟨Nat.lt_of_lt_of_le h.lt (size_set w r i v), (cell_set h.lt hne).trans h.c0, (cell_set h.lt hne).trans h.c1, (cell_set h.lt hne).trans h.c2, fun k => (frozen_set h.lt hne).trans (h.fz k)⟩
theorem T6.set {w : World} {b : Nat} {x : TC} (h : T6 w b x) {r i : Nat} {v : Value} (hne : b ≠ r) : T6 (w.setCell ⟨r, i, none⟩ v) b x :=
  ⟨Nat.lt_of_lt_of_le h.lt (size_set w r i v), (cell_set h.lt hne).trans h.c0, (cell_set h.lt hne).trans h.c1, (cell_set h.lt hne).trans h.c2, (cell_set h.lt hne).trans h.c3, (cell_set h.lt hne).trans h.c4, (cell_set h.lt hne).trans h.c5⟩
theorem T2.set {w : World} {b : Nat} {x y : Int} (h : T2 w b x y) {r i : Nat} {v : Value} (hne : b ≠ r) : T2 (w.setCell ⟨r, i, none⟩ v) b x y :=
  ⟨Nat.lt_of_lt_of_le h.lt (size_set w r i v), (cell_set h.lt hne).trans h.c0, (cell_set h.lt hne).trans h.c1⟩
end Go.Proofs.Ytcknakbjiklklaa.F
