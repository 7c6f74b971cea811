import Derived.Test.YtcknakbjiklklaaB0
import Derived.IntWalk
import Derived.Deep.RegionHeld3
import Derived.Deep.AppendLies
import Derived.StillTailTactics
import Derived.BigRegion
import Derived.Deep.CutBlock
import Derived.OwnWalk
import Derived.Laws.OwnMore
import Derived.Maps.AppendAt
import Derived.Laws.CopyOwn
import Derived.Laws.IdiomCopy
import Derived.ArgAppend
namespace Go.Proofs.Ytcknakbjiklklaa.B
open Go.RowKit Go.Sort
theorem mixed : Try.prog.follows Departure.mixedOrders = true := by kernel_rfl
@[go_sem] theorem cell?_gd (w : World) (q : Nat) (os : Array Obj) (n i : Nat) (h : n < w.heap.size) : (Sort.grow (w.drewN q) os).cell? ⟨n, i, none⟩ = w.cell? ⟨n, i, none⟩ := cell?_grow_lt (w.drewN q) os n i h
@[go_sem] theorem frozen?_gd (w : World) (q : Nat) (os : Array Obj) (n i : Nat) (h : n < w.heap.size) : (Sort.grow (w.drewN q) os).frozen? ⟨n, i, none⟩ = w.frozen? ⟨n, i, none⟩ := frozen?_grow_lt (w.drewN q) os n i h
@[go_sem] theorem setCell_gd (w : World) (q : Nat) (os : Array Obj) (n i : Nat) (v : Value) (h : n < w.heap.size) : (Sort.grow (w.drewN q) os).setCell ⟨n, i, none⟩ v = Sort.grow ((w.setCell ⟨n, i, none⟩ v).drewN q) os := setCell_grow_lt (w.drewN q) os n i v h
@[go_sem] theorem size_gd (w : World) (q : Nat) (os : Array Obj) : (Sort.grow (w.drewN q) os).heap.size = w.heap.size + os.size := size_grow (w.drewN q) os
end Go.Proofs.Ytcknakbjiklklaa.B
