import Derived.Test.YtcknakbjiklklaaS0
/- Schedules; where a predicate first holds. -/
namespace Go.Proofs.Ytcknakbjiklklaa.S
open Go Go.RowKit
set_option linter.unusedVariables false
/-- A cell of a schedule. -/
structure SC where
  sl : Int
  off : Int
  fr : Int
  tt : Int
  fl : Int
  deriving DecidableEq
instance : Inhabited SC := ⟨⟨0, 0, 0, 0, 0⟩⟩
/-- Where a predicate first holds, or -1. -/
def idxF {α : Type} (p : α → Bool) : List α → Nat → Int
  | [], _ => -1
  | x :: r, k => if p x = true then (k : Int) else idxF p r (k + 1)
theorem idxF_yes {α : Type} [Inhabited α] {p : α → Bool} {l : List α} {k : Nat} (h : k < l.length) (hp : p (nth l k) = true) : idxF p (l.drop k) k = k := by
  rw [drop_at l k h]; simp only [idxF]; rw [if_pos hp]
theorem idxF_no {α : Type} [Inhabited α] {p : α → Bool} {l : List α} {k : Nat} (h : k < l.length) (hp : p (nth l k) = false) : idxF p (l.drop k) k = idxF p (l.drop (k + 1)) (k + 1) := by
  rw [drop_at l k h]; simp only [idxF]; rw [if_neg (by rw [hp]; decide)]
theorem idxF_end {α : Type} (p : α → Bool) (l : List α) : idxF p (l.drop l.length) l.length = -1 := by simp [idxF]
theorem idxF_spec {α : Type} [Inhabited α] (p : α → Bool) : ∀ (l : List α) (k : Nat), (idxF p l k = -1 ∧ ∀ x ∈ l, p x = false) ∨ ∃ j, j < l.length ∧ idxF p l k = ((k + j : Nat) : Int) ∧ p (nth l j) = true ∧ ∀ i, i < j → p (nth l i) = false
  | [], k => .inl ⟨rfl, fun x hx => by cases hx⟩
  | x :: r, k => by
    cases hp : p x with
    | true => exact .inr ⟨0, by simp, by simp [idxF, hp], hp, fun i hi => absurd hi (Nat.not_lt_zero _)⟩
    | false =>
      have e : idxF p (x :: r) k = idxF p r (k + 1) := by simp [idxF, hp]
      rcases idxF_spec p r (k + 1) with ⟨a, b⟩ | ⟨j, a, b, c, d⟩
      · refine .inl ⟨by rw [e, a], fun y hy => ?_⟩
        rcases List.mem_cons.1 hy with rfl | hy
        · exact hp
        · exact b y hy
      · refine .inr ⟨j + 1, by simpa using a, by rw [e, b]; congr 1; omega, by rw [nth_cons_succ]; exact c, fun i hi => ?_⟩
        cases i with
        | zero => exact hp
        | succ i => rw [nth_cons_succ]; exact d i (by omega)
/-- Does a predicate hold somewhere. -/
def hasF {α : Type} (p : α → Bool) (l : List α) : Bool := decide (0 ≤ idxF p l 0)
theorem hasF_any {α : Type} [Inhabited α] (p : α → Bool) (l : List α) : hasF p l = l.any p := by
  unfold hasF
  rcases idxF_spec p l 0 with ⟨e, hn⟩ | ⟨j, hj, e, hp, _⟩
  · rw [e, eq_comm, decide_eq_false (by omega), List.any_eq_false]
    exact fun x hx => by rw [hn x hx]; decide
  · rw [e, decide_eq_true (by omega), eq_comm, List.any_eq_true]
    exact ⟨_, List.getElem_mem hj, by rw [← nth_eq]; exact hp⟩
/-- A cell that is not one for a schedule. -/
def badC (len offs : Int) (x : SC) : Bool :=
  decide (x.sl < 0) || decide (x.sl ≥ len) || decide (x.off < 0) || decide (x.off ≥ offs) || !win x.fr 0 31 || !win x.tt 0 31 || x.fr == x.tt || decide (x.fl < 0)
def rightS (len offs : Int) (l : List SC) : Bool :=
  decide ((1 ≤ len ∧ len ≤ 512) ∧ (1 ≤ offs ∧ offs ≤ 16) ∧ l.length ≤ 512) && !l.any (badC len offs)
end Go.Proofs.Ytcknakbjiklklaa.S
