import Derived.WalkKit
/- The specifications of seat Parent: plain functions on numbers and lists. -/
namespace Go.Proofs.Ytlifpafnkagofaa.S
set_option linter.unusedVariables false

def win (n l h : Int) : Bool := decide (l ≤ n ∧ n ≤ h)
theorem win_iff (n l h : Int) : win n l h = true ↔ l ≤ n ∧ n ≤ h := by simp [win]
theorem win_not (n l h : Int) : win n l h = false ↔ ¬ (l ≤ n ∧ n ≤ h) := by simp [win]

/-- A state of a node. -/
structure Rk where
  nd : Int
  ep : Int
  pa : Int
  he : Int
  ra : Int
  le : Int
  deriving DecidableEq
def zR : Rk := ⟨0, 0, 0, 0, 0, 0⟩
/-- Its first error: 0, 1 or 2. -/
def checkR (r : Rk) : Int :=
  if ¬ (0 ≤ r.nd ∧ r.nd ≤ 31) ∨ ¬ (0 ≤ r.ep ∧ r.ep ≤ 65535) ∨ ¬ ((1 ≤ r.le ∧ r.le ≤ 65535) ∨ (r.nd = 0 ∧ r.le = 0)) then 2
  else if (r.nd = 0 ∧ r.ep ≥ 1 ∧ r.pa = -1 ∧ r.he = 0 ∧ r.ra = 0 ∧ (r.le = 0 ∨ r.le = 65535)) ∨
    (r.nd ≠ 0 ∧ r.pa = -1 ∧ r.he = 65535 ∧ r.ra = 65535 ∧ (r.ep > 0 ∨ r.le = 65535)) ∨
    (r.nd ≠ 0 ∧ r.pa ≠ -1 ∧ 0 ≤ r.pa ∧ r.pa ≤ 31 ∧ r.pa ≠ r.nd ∧ r.ep ≥ 1 ∧ r.he ≥ 0 ∧ r.he < r.ra ∧ r.he < r.le ∧ r.ra < 65535) then 0 else 1
theorem checkR_ok (r : Rk) : checkR r = 0 ↔ (0 ≤ r.nd ∧ r.nd ≤ 31) ∧ (0 ≤ r.ep ∧ r.ep ≤ 65535) ∧ ((1 ≤ r.le ∧ r.le ≤ 65535) ∨ (r.nd = 0 ∧ r.le = 0)) ∧
    ((r.nd = 0 ∧ r.ep ≥ 1 ∧ r.pa = -1 ∧ r.he = 0 ∧ r.ra = 0 ∧ (r.le = 0 ∨ r.le = 65535)) ∨
    (r.nd ≠ 0 ∧ r.pa = -1 ∧ r.he = 65535 ∧ r.ra = 65535 ∧ (r.ep > 0 ∨ r.le = 65535)) ∨
    (r.nd ≠ 0 ∧ r.pa ≠ -1 ∧ 0 ≤ r.pa ∧ r.pa ≤ 31 ∧ r.pa ≠ r.nd ∧ r.ep ≥ 1 ∧ r.he ≥ 0 ∧ r.he < r.ra ∧ r.he < r.le ∧ r.ra < 65535)) := by
  unfold checkR
  split
  · constructor
    · intro h; omega
    · intro h; omega
  · split
    · constructor
      · intro _; omega
      · intro _; rfl
    · constructor
      · intro h; omega
      · intro h; omega
/-- Is an advertisement feasible? -/
def feasR (r : Rk) (ep ra : Int) : Bool := decide (checkR r = 0 ∧ r.nd ≠ 0 ∧ 1 ≤ ep ∧ ep ≤ 65535 ∧ 0 ≤ ra ∧ ra ≤ 65534 ∧ (ep > r.ep ∨ ep = r.ep ∧ ra < r.le))
def loseR (r : Rk) : Rk := if checkR r = 0 ∧ r.nd ≠ 0 then ⟨r.nd, r.ep, -1, 65535, 65535, r.le⟩ else r
def beginR (r : Rk) (ep : Int) : Rk := if ep > r.ep then ⟨r.nd, ep, r.pa, r.he, r.ra, 65535⟩ else r
theorem begin_nd (r : Rk) (ep : Int) : (beginR r ep).nd = r.nd := by unfold beginR; split <;> rfl
def adoptR (r : Rk) (fr ep ra co : Int) : Rk × Int :=
  if checkR r ≠ 0 then (zR, 1)
  else if ¬ (0 ≤ fr ∧ fr ≤ 31) ∨ fr = r.nd ∨ ¬ (1 ≤ ep ∧ ep ≤ 65535) ∨ ¬ (0 ≤ ra ∧ ra ≤ 65534) ∨ ¬ (1 ≤ co ∧ co ≤ 1023) then (zR, 2)
  else if feasR r ep ra = false then (zR, 12)
  else if ra + co ≥ 65535 then (zR, 21)
  else (⟨r.nd, (beginR r ep).ep, fr, ra, ra + co, (beginR r ep).le⟩, 0)
def updateR (r : Rk) (ep ra co : Int) : Rk × Int :=
  if checkR r ≠ 0 then (zR, 1)
  else if ¬ (1 ≤ ep ∧ ep ≤ 65535) ∨ ¬ (0 ≤ ra ∧ ra ≤ 65534) ∨ ¬ (1 ≤ co ∧ co ≤ 1023) then (zR, 2)
  else if r.pa = -1 then (zR, 12)
  else if ep < r.ep then (r, 0)
  else if (adoptR r r.pa ep ra co).2 = 0 then ((adoptR r r.pa ep ra co).1, 0)
  else (loseR (beginR r ep), 0)
theorem lose_begin (r : Rk) (ep : Int) (h : checkR r = 0) (hp : r.pa ≠ -1) (h1 : 1 ≤ ep) (h2 : ep ≤ 65535) : loseR (beginR r ep) = beginR (loseR r) ep := by
  have hn : r.nd ≠ 0 := by rw [checkR_ok] at h; omega
  have h3 : checkR (beginR r ep) = 0 := by
    rw [checkR_ok] at h ⊢
    unfold beginR
    split
    · dsimp only; omega
    · exact h
  have h4 : (beginR r ep).nd ≠ 0 := by unfold beginR; split <;> exact hn
  unfold loseR
  rw [if_pos ⟨h3, h4⟩, if_pos ⟨h, hn⟩]
  unfold beginR
  split <;> rfl
end Go.Proofs.Ytlifpafnkagofaa.S
