import Derived.Test.YtcknakbjiklklaaS3
/- The table of a node. -/
namespace Go.Proofs.Ytcknakbjiklklaa.S
open Go Go.RowKit
set_option linter.unusedVariables false
structure Tb where
  n : Int
  len : Int
  l : List TC
def insT (l : List TC) (x : TC) : List TC := l.take (lowT l x) ++ x :: l.drop (lowT l x)
def ofX (self : Int) (c : SC) : TC := ⟨c.sl, c.off, 1, c.fr == self, if c.fr = self then c.tt else c.fr, c.fl⟩
def ofF (self : Int) : List TC → List SC → List TC × Bool
  | acc, [] => (acc, true)
  | acc, c :: r => if c.fr = self ∨ c.tt = self then (if foundT acc (ofX self c) = true then ([], false) else ofF self (insT acc (ofX self c)) r) else ofF self acc r
def ofS (len offs : Int) (l : List SC) (self : Int) : Tb × Int :=
  if rightS len offs l = false then (⟨0, 0, []⟩, 1) else if win self 0 31 = false then (⟨0, 0, []⟩, 2)
  else if (ofF self [] l).2 = false then (⟨0, 0, []⟩, 16) else (⟨self, len, (ofF self [] l).1⟩, 0)
theorem nth_ins (l : List TC) (i : Nat) (x : TC) (k : Nat) (hi : i ≤ l.length) (hk : k < l.length + 1) : nth (l.take i ++ x :: l.drop i) k = if k < i then nth l k else if k = i then x else nth l (k - 1) := by
  have hlen : (l.take i).length = i := by simp; omega
  unfold nth
  rw [List.getD_eq_getElem?_getD, List.getElem?_append, hlen]
  by_cases h1 : k < i
  · rw [if_pos h1, if_pos h1, List.getElem?_take, if_pos h1, List.getD_eq_getElem?_getD]
  · rw [if_neg h1, if_neg h1]
    by_cases h2 : k = i
    · subst h2; simp
    · rw [if_neg h2]
      obtain ⟨d, rfl⟩ : ∃ d, k = i + (d + 1) := ⟨k - i - 1, by omega⟩
      rw [show i + (d + 1) - i = d + 1 by omega, List.getElem?_cons_succ, List.getElem?_drop, List.getD_eq_getElem?_getD]
      congr 2
theorem insT_len (l : List TC) (x : TC) : (insT l x).length = l.length + 1 := by
  have := low_le l x
  unfold insT
  simp
  omega
theorem same_or {a b : TC} (h : ¬ lessT a b) (h2 : ¬ sameP a b) : lessT b a := by unfold lessT sameP at *; omega
theorem insT_sorted {l : List TC} {x : TC} (h : sortedT l) (hf : foundT l x = false) : sortedT (insT l x) := by
  have hle := low_le l x
  have hlow : ∀ k, k < l.length → (lessT (nth l k) x ↔ k < lowT l x) := fun k hk => low_lt k hk h
  have hafter : ∀ k, k < l.length → lowT l x ≤ k → lessT x (nth l k) := by
    intro k hk hik
    have h0 : lowT l x < l.length := by omega
    have n0 : ¬ lessT (nth l (lowT l x)) x := by rw [hlow _ h0]; omega
    have s0 : ¬ sameP (nth l (lowT l x)) x := by
      unfold foundT at hf
      rw [decide_eq_false_iff_not] at hf
      exact fun hh => hf ⟨h0, hh⟩
    have l0 := same_or n0 s0
    rcases Nat.lt_or_ge (lowT l x) k with e | e
    · exact lessT_trans l0 (h _ k e hk)
    · obtain rfl : k = lowT l x := by omega
      exact l0
  unfold insT
  generalize lowT l x = i at *
  have hl : (l.take i ++ x :: l.drop i).length = l.length + 1 := by simp; omega
  intro a b hab hb
  rw [hl] at hb
  rw [nth_ins l i _ a hle (by omega), nth_ins l i _ b hle hb]
  by_cases a1 : a < i
  · rw [if_pos a1]
    by_cases b1 : b < i
    · rw [if_pos b1]; exact h a b hab (by omega)
    · rw [if_neg b1]
      by_cases b2 : b = i
      · rw [if_pos b2]; exact (hlow a (by omega)).2 a1
      · rw [if_neg b2]; exact h a (b - 1) (by omega) (by omega)
  · rw [if_neg a1, if_neg (show ¬ b < i by omega), if_neg (show ¬ b = i by omega)]
    by_cases a2 : a = i
    · rw [if_pos a2]; exact hafter (b - 1) (by omega) (by omega)
    · rw [if_neg a2]; exact h (a - 1) (b - 1) (by omega) (by omega)
end Go.Proofs.Ytcknakbjiklklaa.S
