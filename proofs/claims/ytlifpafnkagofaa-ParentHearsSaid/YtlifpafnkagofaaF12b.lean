import Derived.Test.YtlifpafnkagofaaF12
import Derived.Test.YtlifpafnkagofaaB2
/- A list of links that a walk owns, read. -/
namespace Go.Proofs.Ytlifpafnkagofaa.F
open Go.RowKit Go.Sort Go.Proofs.Ytlifpafnkagofaa.B Go.Proofs.Ytlifpafnkagofaa.S
set_option linter.unusedVariables false
set_option linter.unusedSimpArgs false
theorem info61 : (Try.prog.info? 61).map (fun i => (i.zero, i.size, i.bytes)) = some (some (.agg #[.int .i64 0, .int .i64 0, .int .i64 0, .int .i64 0, .int .i64 0, .int .i64 0, .int .i64 0, .int .i64 0]), 8, 64) := by kernel_rfl
def lkC (x : Lk) : List Value := [.int .i64 x.nb.nd, .int .i64 x.nb.ep, .int .i64 x.nb.ra, .int .i64 x.nb.sl, .int .i64 x.nb.c.at_, .int .i64 x.nb.c.ak, .int .i64 x.ix, .int .i64 x.co]
def lksC (l : List Lk) : List Value := l.flatMap lkC
theorem lksC_len (l : List Lk) : (lksC l).length = l.length * 8 := by
  induction l with
  | nil => rfl
  | cons x r ih => simp [lksC, lkC] at *; omega
theorem lksC_at : ∀ (l : List Lk) (j q : Nat), j < l.length → q < 8 → (lksC l)[j * 8 + q]? = (lkC (nth l j))[q]?
  | [], j, q, h, _ => by simp at h
  | x :: r, 0, q, h, hq => by
    show (lkC x ++ lksC r)[0 * 8 + q]? = (lkC x)[q]?
    rw [Nat.zero_mul, Nat.zero_add, List.getElem?_append_left (by simp [lkC]; exact hq)]
  | x :: r, j + 1, q, h, hq => by
    show (lkC x ++ lksC r)[(j + 1) * 8 + q]? = (lkC (nth r j))[q]?
    rw [List.getElem?_append_right (by simp [lkC]; omega), show (j + 1) * 8 + q - (lkC x).length = j * 8 + q by simp [lkC]; omega]
    exact lksC_at r j q (by simpa using h) hq
theorem RdL_of_own {w : World} {base : Nat} {v : Value} {l : List Lk} (h : w.ownsRow base 61 8 v l.length (lksC l)) (hl : 0 < l.length) :
    ∃ b c, v = .slice (some ⟨b, 0, none⟩) l.length c ∧ l.length ≤ c ∧ RdL w (some ⟨b, 0, none⟩) l := by
  rcases h.2 with ⟨_, h0⟩ | ⟨g, cap, cur, hv, hg, hh, hn, hm, hs, ht⟩
  · omega
  · refine ⟨g, cap, hv, hn, Nat.le_trans hn (Nat.le_trans hm (by simp [maxLen])), fun _ => ⟨g, 0, rfl, ?_, ?_⟩⟩
    · exact (Array.getElem?_eq_some_iff.1 hh).1
    · intro j hj
      subst hv
      have key : ∀ q, q < 8 → w.cell? ⟨g, 0 + j * 8 + q, none⟩ = (lkC (nth l j))[q]? := fun q hq => by
        rw [Nat.zero_add, h.cellAt (j * 8 + q) (by omega)]
        exact lksC_at l j q hj hq
      exact ⟨key 0 (by omega), key 1 (by omega), key 2 (by omega), key 3 (by omega), key 4 (by omega), key 5 (by omega), key 6 (by omega), key 7 (by omega)⟩
theorem own_shape {w : World} {base : Nat} {e : TypeId} {size : Nat} {v : Value} {n : Nat} {xs : List Value} (h : w.ownsRow base e size v n xs) : ∃ a c, v = .slice a n c := by
  rcases h.2 with ⟨rfl, rfl⟩ | ⟨g, cap, _, rfl, _⟩
  · exact ⟨_, _, rfl⟩
  · exact ⟨_, _, rfl⟩
theorem nth_mem {α : Type} [Inhabited α] (l : List α) (j : Nat) (h : j < l.length) : nth l j ∈ l := by rw [nth_eq l j h]; exact List.getElem_mem h
end Go.Proofs.Ytlifpafnkagofaa.F
