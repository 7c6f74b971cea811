import Derived.Test.YtlifpafnkagofaaS6
/- Lists of neighbours as cells; where a predicate first holds. -/
namespace Go.Proofs.Ytlifpafnkagofaa.S
open Go Go.RowKit
set_option linter.unusedVariables false
def nbC (x : Nb) : List Value := [.int .i64 x.nd, .int .i64 x.ep, .int .i64 x.ra, .int .i64 x.sl, .int .i64 x.c.at_, .int .i64 x.c.ak]
def nbsC (l : List Nb) : List Value := l.flatMap nbC
theorem nbsC_len (l : List Nb) : (nbsC l).length = l.length * 6 := by
  induction l with
  | nil => rfl
  | cons x r ih => simp [nbsC, nbC] at *; omega
theorem nbsC_at : ∀ (l : List Nb) (j q : Nat), j < l.length → q < 6 → (nbsC l)[j * 6 + q]? = (nbC (nth l j))[q]?
  | [], j, q, h, _ => by simp at h
  | x :: r, 0, q, h, hq => by
    show (nbC x ++ nbsC r)[0 * 6 + q]? = (nbC x)[q]?
    rw [Nat.zero_mul, Nat.zero_add, List.getElem?_append_left (by simp [nbC]; exact hq)]
  | x :: r, j + 1, q, h, hq => by
    show (nbC x ++ nbsC r)[(j + 1) * 6 + q]? = (nbC (nth r j))[q]?
    rw [List.getElem?_append_right (by simp [nbC]; omega), show (j + 1) * 6 + q - (nbC x).length = j * 6 + q by simp [nbC]; omega]
    exact nbsC_at r j q (by simpa using h) hq
theorem nbsC_one (l : List Nb) : ∀ u ∈ nbsC l, u.oneCell' = true := by
  intro u hu
  obtain ⟨x, _, hx⟩ := List.mem_flatMap.1 hu
  simp [nbC] at hx
  rcases hx with rfl | rfl | rfl | rfl | rfl | rfl <;> rfl
theorem nbsC_append (a b : List Nb) : nbsC (a ++ b) = nbsC a ++ nbsC b := by simp [nbsC]
theorem nbsC_take : ∀ (l : List Nb) (k : Nat), (nbsC l).take (k * 6) = nbsC (l.take k)
  | [], k => by simp [nbsC]
  | x :: r, 0 => by simp [nbsC]
  | x :: r, k + 1 => by
    show (nbC x ++ nbsC r).take ((k + 1) * 6) = nbC x ++ nbsC (r.take k)
    rw [List.take_append, List.take_of_length_le (by simp [nbC]; omega), show (k + 1) * 6 - (nbC x).length = k * 6 by simp [nbC]; omega, nbsC_take r k]
theorem nbsC_drop : ∀ (l : List Nb) (k : Nat), (nbsC l).drop (k * 6) = nbsC (l.drop k)
  | [], k => by simp [nbsC]
  | x :: r, 0 => by simp [nbsC]
  | x :: r, k + 1 => by
    show (nbC x ++ nbsC r).drop ((k + 1) * 6) = nbsC (r.drop k)
    rw [List.drop_append, List.drop_of_length_le (by simp [nbC]; omega), show (k + 1) * 6 - (nbC x).length = k * 6 by simp [nbC]; omega, nbsC_drop r k, List.nil_append]
/-- One element replaced, cell by cell. -/
theorem nbsC_set (x : Nb) : ∀ (l : List Nb) (i : Nat), i < l.length → nbsC (l.set i x) = ((((((nbsC l).set (i * 6) (.int .i64 x.nd)).set (i * 6 + 1) (.int .i64 x.ep)).set (i * 6 + 2) (.int .i64 x.ra)).set (i * 6 + 3) (.int .i64 x.sl)).set (i * 6 + 4) (.int .i64 x.c.at_)).set (i * 6 + 5) (.int .i64 x.c.ak)
  | [], i, h => by simp at h
  | y :: r, 0, h => by simp [nbsC, nbC]
  | y :: r, i + 1, h => by
    have ih := nbsC_set x r i (by simpa using h)
    show nbC y ++ nbsC (r.set i x) = ((((((nbC y ++ nbsC r).set ((i + 1) * 6) _).set ((i + 1) * 6 + 1) _).set ((i + 1) * 6 + 2) _).set ((i + 1) * 6 + 3) _).set ((i + 1) * 6 + 4) _).set ((i + 1) * 6 + 5) _
    rw [ih]
    have e : ∀ (z : List Value) (q : Nat) (v : Value), (nbC y ++ z).set ((i + 1) * 6 + q) v = nbC y ++ z.set (i * 6 + q) v := fun z q v => by
      rw [List.set_append_right _ _ (by simp [nbC]; omega), show (i + 1) * 6 + q - (nbC y).length = i * 6 + q by simp [nbC]; omega]
    have e0 := fun z v => e z 0 v
    simp only [Nat.add_zero] at e0
    rw [e0, e, e, e, e, e]
/-- Where a predicate first holds, or -1. -/
def idxF (p : Nb → Bool) : List Nb → Nat → Int
  | [], _ => -1
  | x :: r, k => if p x = true then (k : Int) else idxF p r (k + 1)
theorem idxF_yes {p : Nb → Bool} {l : List Nb} {k : Nat} (h : k < l.length) (hp : p (nth l k) = true) : idxF p (l.drop k) k = k := by
  rw [drop_at l k h]; simp only [idxF]; rw [if_pos hp]
theorem idxF_no {p : Nb → Bool} {l : List Nb} {k : Nat} (h : k < l.length) (hp : p (nth l k) = false) : idxF p (l.drop k) k = idxF p (l.drop (k + 1)) (k + 1) := by
  rw [drop_at l k h]; simp only [idxF]; rw [if_neg (by rw [hp]; decide)]
theorem idxF_end (p : Nb → Bool) (l : List Nb) : idxF p (l.drop l.length) l.length = -1 := by simp [idxF]
theorem idxF_spec (p : Nb → Bool) : ∀ (l : List Nb) (k : Nat), (idxF p l k = -1 ∧ ∀ x ∈ l, p x = false) ∨ ∃ j, j < l.length ∧ idxF p l k = ((k + j : Nat) : Int) ∧ p (nth l j) = true ∧ ∀ i, i < j → p (nth l i) = false
  | [], k => .inl ⟨rfl, fun x hx => by cases hx⟩
  | x :: r, k => by
    cases hp : p x with
    | true => exact .inr ⟨0, by simp, by simp [idxF, hp], hp, fun i hi => absurd hi (Nat.not_lt_zero _)⟩
    | false =>
      have e : idxF p (x :: r) k = idxF p r (k + 1) := by simp [idxF, hp]
      rcases idxF_spec p r (k + 1) with ⟨a, b⟩ | ⟨j, a, b, c, d⟩
      · refine .inl ⟨by rw [e, a], fun y hy => ?_⟩
        rcases List.mem_cons.1 hy with rfl | hy
        · exact hp
        · exact b y hy
      · refine .inr ⟨j + 1, by simpa using a, by rw [e, b]; congr 1; omega, by rw [nth_cons_succ]; exact c, fun i hi => ?_⟩
        cases i with
        | zero => exact hp
        | succ i => rw [nth_cons_succ]; exact d i (by omega)
end Go.Proofs.Ytlifpafnkagofaa.S
