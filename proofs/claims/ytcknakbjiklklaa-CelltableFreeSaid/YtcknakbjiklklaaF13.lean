import Derived.Test.YtcknakbjiklklaaF10
import Derived.Test.YtcknakbjiklklaaF8
import Derived.Test.YtcknakbjiklklaaS6
/- Own lists of numbers; celltable.Mask. -/
namespace Go.Proofs.Ytcknakbjiklklaa.F
open Go.RowKit Go.Sort Go.Proofs.Ytcknakbjiklklaa.B Go.Proofs.Ytcknakbjiklklaa.S
set_option linter.unusedVariables false
set_option linter.unusedSimpArgs false
theorem info3 : (Try.prog.info? 3).map (fun i => (i.zero, i.size, i.bytes)) = some (some (.int .i64 0), 1, 8) := by kernel_rfl
def iC (l : List Int) : List Value := l.map (.int .i64 ·)
/-- A list of numbers of the call's own. -/
def OwI (w : World) (base : Nat) (v : Value) (l : List Int) : Prop := w.ownsRow base 3 1 v l.length (iC l)
theorem OwI.nil (w : World) (base : Nat) : OwI w base (.slice none 0 0) [] := World.ownsRow_nil _ _ _ _
theorem OwI.bl {w w1 : World} {base : Nat} {v : Value} {l : List Int} (h : OwI w base v l) (hb : Bl w w1) : OwI w1 base v l := own_below h hb
theorem OwI.lower {w : World} {base b0 : Nat} {v : Value} {l : List Int} (h : OwI w base v l) (hb : b0 ≤ base) : OwI w b0 v l := by
  obtain ⟨h1, h2⟩ := h
  refine ⟨h1, h2.imp id ?_⟩
  rintro ⟨g, cap, cur, e, hg, r⟩
  exact ⟨g, cap, cur, e, Nat.le_trans hb hg, r⟩
theorem iC_at (l : List Int) (j : Nat) (h : j < l.length) : (iC l)[j]? = some (.int .i64 (nth l j)) := by
  unfold iC
  rw [List.getElem?_map, nth_eq l j h, List.getElem?_eq_getElem h]
  rfl
theorem OwI.form {w : World} {base : Nat} {v : Value} {l : List Int} (h : OwI w base v l) (hp : 0 < l.length) :
    ∃ g cap, v = .slice (some ⟨g, 0, none⟩) l.length cap ∧ base ≤ g ∧ g < w.heap.size ∧ l.length ≤ cap ∧ cap ≤ 9223372036854775807 ∧ (∀ k, w.frozen? ⟨g, k, none⟩ = false) ∧ ∀ j, j < l.length → w.cell? ⟨g, j, none⟩ = some (.int .i64 (nth l j)) := by
  have h' := h
  rcases h.2 with ⟨_, h0⟩ | ⟨g, cap, cur, hv, hb, hg, hn, hm, hs, ht⟩
  · omega
  · subst hv
    exact ⟨g, cap, rfl, hb, (Array.getElem?_eq_some_iff.1 hg).1, hn, Nat.le_trans hm (by simp [maxLen]), fun k => World.ownsRow.frozenAt h' k, fun j hj => by
      rw [World.ownsRow.cellAt h' j (by omega)]
      exact iC_at l j hj⟩
theorem OwI.rd {w : World} {base : Nat} {v : Value} {l : List Int} (h : OwI w base v l) : ∃ A c, v = .slice A l.length c ∧ l.length ≤ c ∧ RdI w A l := by
  rcases Nat.eq_zero_or_pos l.length with h0 | hp
  · rcases h.2 with ⟨e, _⟩ | ⟨g, cap, cur, hv, hb, hg, hn, hm, hs, ht⟩
    · exact ⟨none, 0, by rw [h0]; exact e, by omega, by omega, fun hp => by omega⟩
    · exact ⟨some ⟨g, 0, none⟩, cap, hv, hn, by omega, fun hp => by omega⟩
  · obtain ⟨g, cap, rfl, _, hg, hn, hm, _, hc⟩ := h.form hp
    exact ⟨_, cap, rfl, hn, by omega, fun _ => ⟨g, 0, rfl, hg, fun j hj => by rw [Nat.zero_add]; exact hc j hj⟩⟩
theorem OwI.set {w : World} {base g cap : Nat} {l : List Int} (h : OwI w base (.slice (some ⟨g, 0, none⟩) l.length cap) l) (i : Nat) (x : Int) :
    OwI (w.setCell ⟨g, i, none⟩ (.int .i64 x)) base (.slice (some ⟨g, 0, none⟩) l.length cap) (l.set i x) := by
  have h1 := (World.ownsRow.stored h i (.int .i64 x)).1
  unfold OwI
  rw [List.length_set]
  unfold iC at *
  rw [List.map_set]
  exact h1
end Go.Proofs.Ytcknakbjiklklaa.F
