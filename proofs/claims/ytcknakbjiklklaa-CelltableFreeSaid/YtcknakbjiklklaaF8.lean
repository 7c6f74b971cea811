import Derived.Test.YtcknakbjiklklaaF7
import Derived.Test.YtcknakbjiklklaaF5
import Derived.Test.YtcknakbjiklklaaF4
import Derived.Test.YtcknakbjiklklaaS4
import Derived.Lib.BufferOwn
import Derived.Lib.BufferWrite
/- celltable.Of. -/
namespace Go.Proofs.Ytcknakbjiklklaa.F
open Go.RowKit Go.Sort Go.Proofs.Ytcknakbjiklklaa.B Go.Proofs.Ytcknakbjiklklaa.S
set_option linter.unusedVariables false
set_option linter.unusedSimpArgs false
theorem Ow.setCell {w : World} {base : Nat} {v : Value} {l : List TC} (h : Ow w base v l) {b i : Nat} (hb : b < base) (x : Value) : Ow (w.setCell ⟨b, i, none⟩ x) base v l :=
  World.ownsRow.kept h (Lib.grownBy_setCell w b i x) (Or.inr (fun e => by have := (World.ownsRow.lt h b e).1; omega))
theorem Bl.setCell {w W : World} (h : Bl w W) {g : Nat} (hg : w.heap.size ≤ g) {o : Nat} {v : Value} : Bl w (W.setCell ⟨g, o, none⟩ v) := Below.setCell h hg _
theorem Bl.below_le {w W w1 : World} {B : Nat} (h : Bl w W) (hb : Below B W w1) (hB : w.heap.size ≤ B) : Bl w w1 := (show Below w.heap.size w w1 from Below.trans h ⟨hb.os, hb.tape, hb.output, hb.size, fun k hk => hb.block k (Nat.lt_of_lt_of_le hk hB)⟩)
end Go.Proofs.Ytcknakbjiklklaa.F
