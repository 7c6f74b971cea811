import Derived.Test.YtcknakbjiklklaaS5
/- The agreed cells with a neighbour; the reference's way of finding the cell in force. -/
namespace Go.Proofs.Ytcknakbjiklklaa.S
open Go Go.RowKit
set_option linter.unusedVariables false
def agreed (peer : Int) (c : TC) : Bool := c.ki == 2 && c.pe == peer
def betS (n len : Int) (l : List TC) (peer : Int) : List TC := if checkT n len l ≠ 0 then [] else l.filter (agreed peer)
theorem bet_snoc (peer : Int) (l : List TC) (k : Nat) (h : k < l.length) : (l.take (k + 1)).filter (agreed peer) = (l.take k).filter (agreed peer) ++ if agreed peer (nth l k) = true then [nth l k] else [] := by
  rw [List.take_succ_eq_append_getElem h, List.filter_append, ← nth_eq l k h]
  cases hq : agreed peer (nth l k) <;> simp [hq]
/-- The first cell of a slot stands where the search ends. -/
theorem first_at {l : List TC} {t : Int} (hs : ∀ i j, i < j → j < l.length → (nth l i).sl ≤ (nth l j).sl) {k : Nat} (hk : k < l.length) (he : (nth l k).sl = t) (hb : ∀ j, j < k → (nth l j).sl ≠ t) : lowI l t = k ∧ foundI l t = true := by
  have h : lowI l t = k := lowI_boundary t l k (by omega) (fun j hj => by have := hs j k hj hk; have := hb j hj; omega) (fun j h1 h2 => by
    rcases Nat.lt_or_ge k j with e | e
    · have := hs k j e h2; omega
    · obtain rfl : j = k := by omega
      omega)
  refine ⟨h, ?_⟩
  unfold foundI
  rw [h]
  exact decide_eq_true ⟨hk, he⟩
theorem none_at {l : List TC} {t : Int} (hb : ∀ j, j < l.length → (nth l j).sl ≠ t) : foundI l t = false := by
  unfold foundI
  exact decide_eq_false (fun h => hb _ h.1 h.2)
end Go.Proofs.Ytcknakbjiklklaa.S
