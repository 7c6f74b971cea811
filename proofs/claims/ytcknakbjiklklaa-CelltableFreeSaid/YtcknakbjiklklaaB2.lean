import Derived.Test.YtcknakbjiklklaaB1
/- Behind a call of which only 'Below' is told: the world it was called in, other draws, and blocks behind. -/
namespace Go.Proofs.Ytcknakbjiklklaa.B
open Go.RowKit Go.Sort
def sd (w : World) (d : Nat) : World := { w with drawn := d }
theorem sd_of_below {W w1 : World} (h : Below W.heap.size W w1) : ∃ d os, w1 = Sort.grow (sd W d) os := by
  obtain ⟨h1, h2, h3, h4, h5⟩ := h
  refine ⟨w1.drawn, w1.heap.extract W.heap.size w1.heap.size, ?_⟩
  cases w1 with | mk heap tape drawn os output =>
  cases W with | mk heap0 tape0 drawn0 os0 output0 =>
  simp only at h1 h2 h3 h4 h5
  subst h1 h2 h3
  unfold Sort.grow sd
  simp only [World.mk.injEq, and_true]
  apply Array.ext_getElem?
  intro k
  rw [Array.getElem?_append]
  by_cases hk : k < heap0.size
  · rw [if_pos hk]; exact h5 k hk
  · rw [if_neg hk, Array.getElem?_extract]
    by_cases hk2 : k < heap.size
    · rw [if_pos (by omega), show heap0.size + (k - heap0.size) = k by omega]
    · rw [if_neg (by omega), Array.getElem?_eq_none (by omega)]
@[go_sem] theorem cell?_sd (w : World) (d : Nat) (a : Addr) : (sd w d).cell? a = w.cell? a := rfl
@[go_sem] theorem frozen?_sd (w : World) (d : Nat) (a : Addr) : (sd w d).frozen? a = w.frozen? a := rfl
@[go_sem] theorem heap_sd (w : World) (d : Nat) : (sd w d).heap = w.heap := rfl
@[go_sem] theorem setCell_sd (w : World) (d : Nat) (p : Addr) (v : Value) : (sd w d).setCell p v = sd (w.setCell p v) d := rfl
@[go_sem] theorem alloc_sd (w : World) (d : Nat) (o : Obj) : (sd w d).alloc o = sd (w.alloc o) d := rfl
@[go_sem] theorem drew_sd (w : World) (d : Nat) : (sd w d).drew = sd w (d + 1) := rfl
@[go_sem] theorem drewN_sd (w : World) (d n : Nat) : (sd w d).drewN n = sd w (d + n) := rfl
@[go_sem] theorem sd_sd (w : World) (d n : Nat) : sd (sd w d) n = sd w n := rfl
@[go_sem] theorem sd_drewN (w : World) (d n : Nat) : sd (w.drewN n) d = sd w d := rfl
@[go_sem] theorem sd_drew (w : World) (d : Nat) : sd w.drew d = sd w d := rfl
@[go_sem] theorem sd_grow (w : World) (d : Nat) (os : Array Obj) : sd (Sort.grow w os) d = Sort.grow (sd w d) os := rfl
@[go_sem] theorem cell?_gs (w : World) (q : Nat) (os : Array Obj) (n i : Nat) (h : n < w.heap.size) : (Sort.grow (sd w q) os).cell? ⟨n, i, none⟩ = w.cell? ⟨n, i, none⟩ := cell?_grow_lt (sd w q) os n i h
@[go_sem] theorem frozen?_gs (w : World) (q : Nat) (os : Array Obj) (n i : Nat) (h : n < w.heap.size) : (Sort.grow (sd w q) os).frozen? ⟨n, i, none⟩ = w.frozen? ⟨n, i, none⟩ := frozen?_grow_lt (sd w q) os n i h
@[go_sem] theorem setCell_gs (w : World) (q : Nat) (os : Array Obj) (n i : Nat) (v : Value) (h : n < w.heap.size) : (Sort.grow (sd w q) os).setCell ⟨n, i, none⟩ v = Sort.grow (sd (w.setCell ⟨n, i, none⟩ v) q) os := setCell_grow_lt (sd w q) os n i v h
@[go_sem] theorem size_gs (w : World) (q : Nat) (os : Array Obj) : (Sort.grow (sd w q) os).heap.size = w.heap.size + os.size := size_grow (sd w q) os
/-- What stood in w stands. -/
def Bl (w w' : World) : Prop := Below w.heap.size w w'
theorem Bl.refl (w : World) : Bl w w := Below.refl _ w
theorem Bl.trans {a b c : World} (h : Bl a b) (k : Bl b c) : Bl a c := by
  unfold Bl at *
  exact h.trans ⟨k.os, k.tape, k.output, k.size, fun i hi => k.block i (Nat.lt_of_lt_of_le hi h.size)⟩
theorem Gr.bl {w W : World} (h : Gr w W) : Bl w W := h.below
theorem Bl.grow {w W : World} (h : Bl w W) (os : Array Obj) : Bl w (Sort.grow W os) := h.trans (by
  have := ((Gr.refl W).grow 0 os).below
  rwa [World.drewN_zero] at this)
theorem Bl.alloc {w W : World} (h : Bl w W) (o : Obj) : Bl w (W.alloc o) := h.trans ((Gr.refl W).alloc o).below
theorem Bl.drewN {w W : World} (h : Bl w W) (n : Nat) : Bl w (W.drewN n) := h.trans ((Gr.refl W).drewN n).below
theorem Bl.drew {w W : World} (h : Bl w W) : Bl w W.drew := h.trans ((Gr.refl W).drew).below
theorem Bl.sd {w W : World} (h : Bl w W) (d : Nat) : Bl w (B.sd W d) := h.trans ⟨rfl, rfl, rfl, Nat.le_refl _, fun _ _ => rfl⟩
theorem Bl.out {w W : World} (h : Bl w W) : ∃ d os, W = Sort.grow (B.sd w d) os := sd_of_below h
theorem Bl.grown {w W w1 : World} {row : Option Nat} (h : Bl w W) (hg : W.grownBy w1 row) (hr : ∀ k, row = some k → w.heap.size ≤ k) : Bl w w1 :=
  Below.grown h hg h.size hr
theorem own_below {w w1 : World} {base : Nat} {e : TypeId} {size n : Nat} {v : Value} {xs : List Value} (h : w.ownsRow base e size v n xs) (hb : Bl w w1) : w1.ownsRow base e size v n xs :=
  h.kept (⟨hb.os, hb.tape, hb.output, hb.size, fun i hi _ => hb.block i hi⟩ : w.grownBy w1 none) (by cases v.ownBlock <;> simp)
/-- The cells of a block that was just laid, its number spelled as it may be. -/
theorem news_alloc (X : World) (cs : Array Value) (t n : Nat) (h : n = X.heap.size) : ∀ j u, cs.toList[j]? = some u → (X.alloc (.cells cs t)).cell? ((⟨n, 0, none⟩ : Addr).add j) = some u := by
  intro j u hj
  subst h
  exact World.news_of_block (cs := cs) (t := t) (fr := (0, 0)) (heap_alloc_new _ _) j u hj
end Go.Proofs.Ytcknakbjiklklaa.B
