import Derived.Test.YtcknakbjiklklaaF2
/- Tables and cells in boxes, carried from world to world. -/
namespace Go.Proofs.Ytcknakbjiklklaa.F
open Go.RowKit Go.Sort Go.Proofs.Ytcknakbjiklklaa.B Go.Proofs.Ytcknakbjiklklaa.S
set_option linter.unusedVariables false
/-- A table in a box. -/
structure T3 (w : World) (b : Nat) (n len : Int) (v : Value) : Prop where
  lt : b < w.heap.size
  c0 : w.cell? ⟨b, 0, none⟩ = some (.int .i64 n)
  c1 : w.cell? ⟨b, 1, none⟩ = some (.int .i64 len)
  c2 : w.cell? ⟨b, 2, none⟩ = some v
  fz : ∀ k, w.frozen? ⟨b, k, none⟩ = false
theorem T3.below {w W : World} {b B : Nat} {n len : Int} {v : Value} (h : T3 w b n len v) (hb : Below B w W) (hB : b < B) : T3 W b n len v :=
  ⟨Nat.lt_of_lt_of_le h.lt hb.size, (Below.cell hb (p := ⟨b, 0, none⟩) hB).trans h.c0, (Below.cell hb (p := ⟨b, 1, none⟩) hB).trans h.c1, (Below.cell hb (p := ⟨b, 2, none⟩) hB).trans h.c2, fun k => (Below.frozen hb (p := ⟨b, k, none⟩) hB).trans (h.fz k)⟩
theorem T3.bl {w W : World} {b : Nat} {n len : Int} {v : Value} (h : T3 w b n len v) (hb : Bl w W) : T3 W b n len v := h.below hb h.lt
/-- A cell in a box. -/
structure T6 (w : World) (b : Nat) (x : TC) : Prop where
  lt : b < w.heap.size
  c0 : w.cell? ⟨b, 0, none⟩ = some (.int .i64 x.sl)
  c1 : w.cell? ⟨b, 1, none⟩ = some (.int .i64 x.off)
  c2 : w.cell? ⟨b, 2, none⟩ = some (.int .i64 x.ki)
  c3 : w.cell? ⟨b, 3, none⟩ = some (.bool x.se)
  c4 : w.cell? ⟨b, 4, none⟩ = some (.int .i64 x.pe)
  c5 : w.cell? ⟨b, 5, none⟩ = some (.int .i64 x.fl)
theorem T6.below {w W : World} {b B : Nat} {x : TC} (h : T6 w b x) (hb : Below B w W) (hB : b < B) : T6 W b x :=
  ⟨Nat.lt_of_lt_of_le h.lt hb.size, (Below.cell hb (p := ⟨b, 0, none⟩) hB).trans h.c0, (Below.cell hb (p := ⟨b, 1, none⟩) hB).trans h.c1, (Below.cell hb (p := ⟨b, 2, none⟩) hB).trans h.c2,
    (Below.cell hb (p := ⟨b, 3, none⟩) hB).trans h.c3, (Below.cell hb (p := ⟨b, 4, none⟩) hB).trans h.c4, (Below.cell hb (p := ⟨b, 5, none⟩) hB).trans h.c5⟩
theorem T6.bl {w W : World} {b : Nat} {x : TC} (h : T6 w b x) (hb : Bl w W) : T6 W b x := h.below hb h.lt
/-- A pair of numbers in a box. -/
structure T2 (w : World) (b : Nat) (x y : Int) : Prop where
  lt : b < w.heap.size
  c0 : w.cell? ⟨b, 0, none⟩ = some (.int .i64 x)
  c1 : w.cell? ⟨b, 1, none⟩ = some (.int .i64 y)
theorem T2.bl {w W : World} {b : Nat} {x y : Int} (h : T2 w b x y) (hb : Bl w W) : T2 W b x y :=
  ⟨Nat.lt_of_lt_of_le h.lt hb.size, (Below.cell hb (p := ⟨b, 0, none⟩) h.lt).trans h.c0, (Below.cell hb (p := ⟨b, 1, none⟩) h.lt).trans h.c1⟩
end Go.Proofs.Ytcknakbjiklklaa.F
