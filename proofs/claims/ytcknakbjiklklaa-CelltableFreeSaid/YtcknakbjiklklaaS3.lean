import Derived.Test.YtcknakbjiklklaaS2
/- Lists of cells as memory cells. -/
namespace Go.Proofs.Ytcknakbjiklklaa.S
open Go Go.RowKit
set_option linter.unusedVariables false
def tcC (x : TC) : List Value := [.int .i64 x.sl, .int .i64 x.off, .int .i64 x.ki, .bool x.se, .int .i64 x.pe, .int .i64 x.fl]
def tcsC (l : List TC) : List Value := l.flatMap tcC
theorem tcsC_len (l : List TC) : (tcsC l).length = l.length * 6 := by
  induction l with
  | nil => rfl
  | cons x r ih => simp [tcsC, tcC] at *; omega
theorem tcsC_at : ∀ (l : List TC) (j q : Nat), j < l.length → q < 6 → (tcsC l)[j * 6 + q]? = (tcC (nth l j))[q]?
  | [], j, q, h, _ => by simp at h
  | x :: r, 0, q, h, hq => by
    show (tcC x ++ tcsC r)[0 * 6 + q]? = (tcC x)[q]?
    rw [Nat.zero_mul, Nat.zero_add, List.getElem?_append_left (by simp [tcC]; exact hq)]
  | x :: r, j + 1, q, h, hq => by
    show (tcC x ++ tcsC r)[(j + 1) * 6 + q]? = (tcC (nth r j))[q]?
    rw [List.getElem?_append_right (by simp [tcC]; omega), show (j + 1) * 6 + q - (tcC x).length = j * 6 + q by simp [tcC]; omega]
    exact tcsC_at r j q (by simpa using h) hq
theorem tcsC_one (l : List TC) : ∀ u ∈ tcsC l, u.oneCell' = true := by
  intro u hu
  obtain ⟨x, _, hx⟩ := List.mem_flatMap.1 hu
  simp [tcC] at hx
  rcases hx with rfl | rfl | rfl | rfl | rfl | rfl <;> rfl
theorem tcsC_append (a b : List TC) : tcsC (a ++ b) = tcsC a ++ tcsC b := by simp [tcsC]
theorem tcsC_take : ∀ (l : List TC) (k : Nat), (tcsC l).take (k * 6) = tcsC (l.take k)
  | [], k => by simp [tcsC]
  | x :: r, 0 => by simp [tcsC]
  | x :: r, k + 1 => by
    show (tcC x ++ tcsC r).take ((k + 1) * 6) = tcC x ++ tcsC (r.take k)
    rw [List.take_append, List.take_of_length_le (by simp [tcC]; omega), show (k + 1) * 6 - (tcC x).length = k * 6 by simp [tcC]; omega, tcsC_take r k]
theorem tcsC_drop : ∀ (l : List TC) (k : Nat), (tcsC l).drop (k * 6) = tcsC (l.drop k)
  | [], k => by simp [tcsC]
  | x :: r, 0 => by simp [tcsC]
  | x :: r, k + 1 => by
    show (tcC x ++ tcsC r).drop ((k + 1) * 6) = tcsC (r.drop k)
    rw [List.drop_append, List.drop_of_length_le (by simp [tcC]; omega), show (k + 1) * 6 - (tcC x).length = k * 6 by simp [tcC]; omega, tcsC_drop r k, List.nil_append]
/-- One element replaced, cell by cell. -/
theorem tcsC_set (x : TC) : ∀ (l : List TC) (i : Nat), i < l.length → tcsC (l.set i x) = ((((((tcsC l).set (i * 6) (.int .i64 x.sl)).set (i * 6 + 1) (.int .i64 x.off)).set (i * 6 + 2) (.int .i64 x.ki)).set (i * 6 + 3) (.bool x.se)).set (i * 6 + 4) (.int .i64 x.pe)).set (i * 6 + 5) (.int .i64 x.fl)
  | [], i, h => by simp at h
  | y :: r, 0, h => by simp [tcsC, tcC]
  | y :: r, i + 1, h => by
    have ih := tcsC_set x r i (by simpa using h)
    show tcC y ++ tcsC (r.set i x) = ((((((tcC y ++ tcsC r).set ((i + 1) * 6) _).set ((i + 1) * 6 + 1) _).set ((i + 1) * 6 + 2) _).set ((i + 1) * 6 + 3) _).set ((i + 1) * 6 + 4) _).set ((i + 1) * 6 + 5) _
    rw [ih]
    have e : ∀ (z : List Value) (q : Nat) (v : Value), (tcC y ++ z).set ((i + 1) * 6 + q) v = tcC y ++ z.set (i * 6 + q) v := fun z q v => by
      rw [List.set_append_right _ _ (by simp [tcC]; omega), show (i + 1) * 6 + q - (tcC y).length = i * 6 + q by simp [tcC]; omega]
    have e0 := fun z v => e z 0 v
    simp only [Nat.add_zero] at e0
    rw [e0, e, e, e, e, e]
end Go.Proofs.Ytcknakbjiklklaa.S
