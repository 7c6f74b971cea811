import Derived.Test.YtlifpafnkagofaaS1
/- Lists of neighbours: their first error. -/
namespace Go.Proofs.Ytlifpafnkagofaa.S
open Go Go.RowKit
set_option linter.unusedVariables false
def heardS (nd ep ra sl : Int) : Bool := win nd 0 31 && win ep 1 65535 && win ra 0 65534 && win sl 0 1099511627776
def okN (x : Nb) : Bool := heardS x.nd x.ep x.ra x.sl && win x.c.at_ 0 255 && win x.c.ak 0 x.c.at_
def checkF : Option Int → List Nb → Int
  | _, [] => 0
  | p, x :: r => if okN x = false then 2 else match p with
    | none => checkF (some x.nd) r
    | some q => if q ≥ x.nd then 5 else checkF (some x.nd) r
def checkL (l : List Nb) : Int := if l.length > 32 then 8 else checkF none l
/-- Element k (a name of its own: simp leaves it). -/
def nth {α : Type} [Inhabited α] (l : List α) (k : Nat) : α := l.getD k default
instance : Inhabited Nb := ⟨zN⟩
theorem nth_eq {α : Type} [Inhabited α] (l : List α) (k : Nat) (h : k < l.length) : nth l k = l[k] := by simp [nth, h]
theorem drop_at {α : Type} [Inhabited α] : ∀ (l : List α) (k : Nat), k < l.length → l.drop k = nth l k :: l.drop (k + 1)
  | [], k, h => by simp at h
  | x :: r, 0, _ => rfl
  | x :: r, k + 1, h => by simpa [nth] using drop_at r k (by simpa using h)
def prevOf (l : List Nb) (k : Nat) : Option Int := if k = 0 then none else some (nth l (k - 1)).nd
theorem prevOf_succ (l : List Nb) (k : Nat) : prevOf l (k + 1) = some (nth l k).nd := by simp [prevOf]
theorem checkF_bad {l : List Nb} {k : Nat} (h : k < l.length) (hb : okN (nth l k) = false) : checkF (prevOf l k) (l.drop k) = 2 := by
  rw [drop_at l k h]; simp only [checkF]; rw [if_pos hb]
theorem checkF_first {l : List Nb} (h : 0 < l.length) (hb : okN (nth l 0) = true) : checkF (prevOf l 0) (l.drop 0) = checkF (prevOf l 1) (l.drop 1) := by
  rw [drop_at l 0 h, prevOf_succ]
  simp only [checkF]
  rw [if_neg (by rw [hb]; decide), show prevOf l 0 = none from rfl]
theorem checkF_order {l : List Nb} {k : Nat} (h : k < l.length) (hk : 0 < k) (hb : okN (nth l k) = true) (ho : (nth l k).nd ≤ (nth l (k - 1)).nd) : checkF (prevOf l k) (l.drop k) = 5 := by
  obtain ⟨j, rfl⟩ : ∃ j, k = j + 1 := ⟨k - 1, by omega⟩
  rw [drop_at l (j + 1) h, prevOf_succ]
  rw [Nat.add_sub_cancel] at ho
  simp only [checkF]
  rw [if_neg (by rw [hb]; decide), if_pos ho]
theorem checkF_next {l : List Nb} {k : Nat} (h : k < l.length) (hk : 0 < k) (hb : okN (nth l k) = true) (ho : ¬ (nth l k).nd ≤ (nth l (k - 1)).nd) : checkF (prevOf l k) (l.drop k) = checkF (prevOf l (k + 1)) (l.drop (k + 1)) := by
  obtain ⟨j, rfl⟩ : ∃ j, k = j + 1 := ⟨k - 1, by omega⟩
  rw [drop_at l (j + 1) h, prevOf_succ, prevOf_succ]
  rw [Nat.add_sub_cancel] at ho
  simp only [checkF]
  rw [if_neg (by rw [hb]; decide), if_neg ho]
theorem checkF_end (l : List Nb) : checkF (prevOf l l.length) (l.drop l.length) = 0 := by simp [checkF]
end Go.Proofs.Ytlifpafnkagofaa.S
