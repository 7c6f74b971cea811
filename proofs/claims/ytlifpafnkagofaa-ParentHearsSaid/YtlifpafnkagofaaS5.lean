import Derived.Test.YtlifpafnkagofaaS4
/- The links of a list of neighbours; the best one. -/
namespace Go.Proofs.Ytlifpafnkagofaa.S
open Go Go.RowKit
set_option linter.unusedVariables false
def mkL (x : Nb) (i : Nat) : Lk := ⟨x, i, costS x.c⟩
def candB (r : Rk) (x : Nb) : Bool := decide (x.nd ≠ r.nd) && feasR r x.ep x.ra && decide (x.ra + costS x.c < 65535)
def linksF (r : Rk) : Nat → List Nb → List Lk
  | _, [] => []
  | i, x :: rest => if candB r x = true then mkL x i :: linksF r (i + 1) rest else linksF r (i + 1) rest
def pickL : List Lk → Lk × Bool
  | [] => (zL, false)
  | x :: rest => (minF x rest, true)
def bestS (r : Rk) (l : List Nb) : Lk × Bool := pickL (linksF r 0 l)
theorem linksF_yes {r : Rk} {l : List Nb} {k : Nat} (h : k < l.length) (hc : candB r (nth l k) = true) : linksF r k (l.drop k) = mkL (nth l k) k :: linksF r (k + 1) (l.drop (k + 1)) := by
  rw [drop_at l k h]; simp only [linksF]; rw [if_pos hc]
theorem linksF_no {r : Rk} {l : List Nb} {k : Nat} (h : k < l.length) (hc : candB r (nth l k) = false) : linksF r k (l.drop k) = linksF r (k + 1) (l.drop (k + 1)) := by
  rw [drop_at l k h]; simp only [linksF]; rw [if_neg (by rw [hc]; decide)]
theorem linksF_ok {r : Rk} : ∀ (l : List Nb) (i : Nat), (∀ k, k < l.length → okN (nth l k) = true) → ∀ x ∈ linksF r i l, okK x
  | [], i, _, x, hx => by simp [linksF] at hx
  | y :: rest, i, h, x, hx => by
    have hy := (okN_iff y).1 (h 0 (by simp))
    have hr : ∀ x ∈ linksF r (i + 1) rest, okK x := linksF_ok rest (i + 1) (fun k hk => by simpa [nth_cons_succ] using h (k + 1) (by simpa using hk))
    simp only [linksF] at hx
    split at hx
    · rcases List.mem_cons.1 hx with rfl | hx
      · have := costS_bd y.c
        unfold okK mkL
        dsimp only
        omega
      · exact hr x hx
    · exact hr x hx
end Go.Proofs.Ytlifpafnkagofaa.S
