import Derived.Test.YtcknakbjiklklaaF6
/- slices.Insert into an own list. -/
namespace Go.Proofs.Ytcknakbjiklklaa.F
open Go.RowKit Go.Sort Go.Proofs.Ytcknakbjiklklaa.B Go.Proofs.Ytcknakbjiklklaa.S
set_option linter.unusedVariables false
set_option linter.unusedSimpArgs false
/-- What an own list of at least one element is, cell by cell. -/
theorem Ow.form {w : World} {base : Nat} {v : Value} {l : List TC} (h : Ow w base v l) {i : Nat} (hi : i < l.length) :
    ∃ g cap, v = .slice (some ⟨g, 0, none⟩) l.length cap ∧ base ≤ g ∧ g < w.heap.size ∧ l.length ≤ cap ∧ cap ≤ 9223372036854775807 ∧ (∀ k, w.frozen? ⟨g, k, none⟩ = false) ∧ C43 w g (i * 6) (nth l i) := by
  have h' := h
  rcases h.2 with ⟨_, h0⟩ | ⟨g, cap, cur, hv, hb, hg, hn, hm, hs, ht⟩
  · omega
  · subst hv
    have key : ∀ q, q < 6 → w.cell? ⟨g, i * 6 + q, none⟩ = (tcC (nth l i))[q]? := fun q hq => by
      rw [World.ownsRow.cellAt h' (i * 6 + q) (by omega)]
      exact tcsC_at l i q hi hq
    refine ⟨g, cap, rfl, hb, (Array.getElem?_eq_some_iff.1 hg).1, hn, Nat.le_trans hm (by simp [maxLen]), fun k => World.ownsRow.frozenAt h' k, key 0 (by omega), key 1 (by omega), key 2 (by omega), key 3 (by omega), key 4 (by omega), key 5 (by omega)⟩
theorem Ow.lower {w : World} {base b0 : Nat} {v : Value} {l : List TC} (h : Ow w base v l) (hb : b0 ≤ base) : Ow w b0 v l := by
  obtain ⟨h1, h2⟩ := h
  refine ⟨h1, h2.imp id ?_⟩
  rintro ⟨g, cap, cur, e, hg, r⟩
  exact ⟨g, cap, cur, e, Nat.le_trans hb hg, r⟩
/-- slices.Insert into an own list. -/
theorem tinsert (base : Nat) (v : Value) (l : List TC) (i : Nat) (x : TC) (vb : Nat) (w : World) (hown : Ow w base v l) (hn : l.length ≤ 1000000) (hi : i ≤ l.length) (hv : w.heap[vb]? = some (.cells (tcC x).toArray 43 (0, 0))) (hvb : some vb ≠ v.ownBlock) (hb : base ≤ w.heap.size) :
    Calls Try.prog 50 #[v, .int .i64 i, .slice (some ⟨vb, 0, none⟩) 1 1] w fun e w' => ∃ v', e = .returned v' ∧ Ow w' base v' (l.take i ++ x :: l.drop i) ∧ w.grownBy w' v.ownBlock := by
  refine (insert_one base v l.length i (tcsC l) (tcC x) vb w hown hn hi hv rfl (by simp [tcC, Value.oneCell']) (tcsC_one l) hvb hb).mono fun e w' ⟨v', e1, e2, e3⟩ => ⟨v', e1, ?_, e3⟩
  unfold Ow
  rw [tcsC_take, tcsC_drop] at e2
  rw [show (l.take i ++ x :: l.drop i).length = l.length + 1 by simp; omega, show tcsC (l.take i ++ x :: l.drop i) = tcsC (l.take i) ++ tcC x ++ tcsC (l.drop i) by rw [tcsC_append]; simp [tcsC]]
  exact e2
theorem news_at (X : World) (o : Obj) (n : Nat) (h : n = X.heap.size) : (X.alloc o).heap[n]? = some o := by subst h; exact heap_alloc_new X o
theorem grown_at {X : World} (d : Nat) (os : Array Obj) {n : Nat} {o : Obj} (h : X.heap[n]? = some o) : (Sort.grow (sd X d) os).heap[n]? = some o :=
  (heap_grow_old (sd X d) os (show n < (sd X d).heap.size from (Array.getElem?_eq_some_iff.1 h).1)).trans h
end Go.Proofs.Ytcknakbjiklklaa.F
