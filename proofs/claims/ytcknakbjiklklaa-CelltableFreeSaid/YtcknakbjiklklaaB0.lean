import Derived.Test.YtcknakbjiklklaaProg
import Derived.Below
import Derived.Deep.Draws
import Derived.WalkKit
import Derived.KernelRfl
import Derived.RowKit3
import Derived.Deep.LoopGhost
import Derived.Deep.QuietTactic
import Derived.BigQuiet
import Derived.Outline
import Derived.Sort.Grow
import Derived.Sort.Walk7
import Derived.Shelf.SlSortCmp.QuietGrown
import Derived.WalkLawsBesides
import Derived.Deep.DeepCutAuto
import Derived.Laws.Rows
/- Worlds that a call leaves which lays blocks of its own and draws: 'Gr w w''; how the walk reads and writes through them. -/
namespace Go.Proofs.Ytcknakbjiklklaa
open Go.RowKit Go.Sort
namespace B
/-- A fact that the walk's simp doesn't look into. -/
structure Hd (p : Prop) : Prop where mk :: (out : p)
/-- Behind w: some draws, and some blocks. -/
def Gr (w w' : World) : Prop := ∃ p : GrownBy, w' = grow (w.drewN p.n) p.os
theorem Gr.refl (w : World) : Gr w w := ⟨⟨0, #[]⟩, by simp [World.drewN_zero]⟩
theorem Gr.out {w w' : World} (h : Gr w w') : ∃ n os, w' = grow (w.drewN n) os := by
  obtain ⟨p, rfl⟩ := h; exact ⟨p.n, p.os, rfl⟩
theorem Gr.mk {w : World} (n : Nat) (os : Array Obj) : Gr w (grow (w.drewN n) os) := ⟨⟨n, os⟩, rfl⟩
theorem Gr.grow {w W : World} (h : Gr w W) (n : Nat) (os : Array Obj) : Gr w (Sort.grow (W.drewN n) os) := by
  obtain ⟨p, rfl⟩ := h
  exact ⟨⟨p.n + n, p.os ++ os⟩, by rw [← grow_grow, ← World.drewN_drewN]; rfl⟩
theorem Gr.trans {a b c : World} (h : Gr a b) (k : Gr b c) : Gr a c := by
  obtain ⟨p, rfl⟩ := k; exact h.grow p.n p.os
theorem Gr.alloc {w W : World} (h : Gr w W) (o : Obj) : Gr w (W.alloc o) := by
  have := h.grow 0 #[o]
  rwa [World.drewN_zero, ← alloc_eq_grow] at this
theorem Gr.drewN {w W : World} (h : Gr w W) (n : Nat) : Gr w (W.drewN n) := by
  have := h.grow n #[]
  rwa [grow_empty] at this
theorem Gr.drew {w W : World} (h : Gr w W) : Gr w W.drew := h.drewN 1
theorem Gr.below {w W : World} (h : Gr w W) : Below w.heap.size w W := by
  obtain ⟨p, rfl⟩ := h
  exact ⟨rfl, rfl, rfl, by simp, fun k hk => heap_grow_old _ _ (by simpa using hk)⟩
theorem Gr.size {w W : World} (h : Gr w W) : w.heap.size ≤ W.heap.size := h.below.size
/-- Nothing but draws. -/
def Dr (w w' : World) : Prop := ∃ n, w' = w.drewN n
theorem Dr.refl (w : World) : Dr w w := ⟨0, rfl⟩
theorem Dr.drewN {w W : World} (h : Dr w W) (n : Nat) : Dr w (W.drewN n) := by
  obtain ⟨m, rfl⟩ := h; exact ⟨m + n, World.drewN_drewN ..⟩
theorem Dr.drew {w W : World} (h : Dr w W) : Dr w W.drew := h.drewN 1
theorem Dr.gr {w W : World} (h : Dr w W) : Gr w W := by obtain ⟨n, rfl⟩ := h; exact (Gr.refl w).drewN n

@[go_sem] theorem cell?_grow_lt (w : World) (os : Array Obj) (n i : Nat) (h : n < w.heap.size) : (Sort.grow w os).cell? ⟨n, i, none⟩ = w.cell? ⟨n, i, none⟩ := cell?_grow w os ⟨n, i, none⟩ h
@[go_sem] theorem frozen?_grow_lt (w : World) (os : Array Obj) (n i : Nat) (h : n < w.heap.size) : (Sort.grow w os).frozen? ⟨n, i, none⟩ = w.frozen? ⟨n, i, none⟩ := frozen?_grow w os ⟨n, i, none⟩ h
@[go_sem] theorem setCell_grow_lt (w : World) (os : Array Obj) (n i : Nat) (v : Value) (h : n < w.heap.size) : (Sort.grow w os).setCell ⟨n, i, none⟩ v = Sort.grow (w.setCell ⟨n, i, none⟩ v) os := setCell_grow w os n i v h
@[go_sem] theorem setCell_drewN (w : World) (n : Nat) (p : Addr) (v : Value) : (w.drewN n).setCell p v = (w.setCell p v).drewN n := rfl
@[go_sem] theorem alloc_drewN (w : World) (n : Nat) (o : Obj) : (w.drewN n).alloc o = (w.alloc o).drewN n := rfl
@[go_sem] theorem drew_grow' (w : World) (os : Array Obj) : (Sort.grow w os).drew = Sort.grow w.drew os := rfl
@[go_sem] theorem drewN_grow (w : World) (n : Nat) (os : Array Obj) : (Sort.grow w os).drewN n = Sort.grow (w.drewN n) os := rfl
attribute [go_sem] size_grow grow_grow
@[go_sem] theorem heap_assoc (w : World) (b c : Nat) : w.heap.size + b + c = w.heap.size + (b + c) := Nat.add_assoc _ _ _
@[go_sem] theorem lt_add_r (a b c : Nat) (h : a < b) : (a < b + c) = True := by simp; omega
/-- Behind a call in a region that draws. -/
theorem quiet_grown {P : Program} {f : FuncId} {args : Array Value} {w : World} {n : Nat} {os : Array Obj} {v : Value} {W : World} (hW : W = Sort.grow (w.drewN n) os)
    (h : Calls P f args W fun e w' => e = .returned v ∧ Gr W w') : Calls P f args W fun e w'' => e = .returned v ∧ ∃ p : GrownBy, w'' = Sort.grow (w.drewN p.n) p.os := by
  subst hW
  exact h.mono fun _ _ ⟨he, hg⟩ => ⟨he, (Gr.mk n os).trans hg⟩
theorem info_of {P : Program} {T : Nat} {z : Value} {n b : Nat} (h : (P.info? T).map (fun i => (i.zero, i.size, i.bytes)) = some (some z, n, b)) : ∃ i, P.info? T = some i ∧ i.zero = some z ∧ i.size = n ∧ i.bytes = b := by
  obtain ⟨i, hi, hz⟩ := Option.map_eq_some_iff.1 h
  simp only [Prod.mk.injEq] at hz
  exact ⟨i, hi, hz.1, hz.2.1, hz.2.2⟩
end B
end Go.Proofs.Ytcknakbjiklklaa
