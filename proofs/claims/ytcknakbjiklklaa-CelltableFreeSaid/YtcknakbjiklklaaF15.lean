import Derived.Test.YtcknakbjiklklaaF10
import Derived.Test.YtcknakbjiklklaaF8
import Derived.Test.YtcknakbjiklklaaS7
/- Own lists of places; celltable.Candidates. -/
namespace Go.Proofs.Ytcknakbjiklklaa.F
open Go.RowKit Go.Sort Go.Proofs.Ytcknakbjiklklaa.B Go.Proofs.Ytcknakbjiklklaa.S
set_option linter.unusedVariables false
set_option linter.unusedSimpArgs false
theorem info55 : (Try.prog.info? 55).map (fun i => (i.zero, i.size, i.bytes)) = some (some (.agg #[.int .i64 0, .int .i64 0]), 2, 16) := by kernel_rfl
def pC (x : Sp) : List Value := [.int .i64 x.sl, .int .i64 x.off]
def psC (l : List Sp) : List Value := l.flatMap pC
theorem psC_len (l : List Sp) : (psC l).length = l.length * 2 := by
  induction l with
  | nil => rfl
  | cons x r ih => simp [psC, pC] at *; omega
theorem psC_at : ∀ (l : List Sp) (j q : Nat), j < l.length → q < 2 → (psC l)[j * 2 + q]? = (pC (nth l j))[q]?
  | [], j, q, h, _ => by simp at h
  | x :: r, 0, q, h, hq => by
    show (pC x ++ psC r)[0 * 2 + q]? = (pC x)[q]?
    rw [Nat.zero_mul, Nat.zero_add, List.getElem?_append_left (by simp [pC]; exact hq)]
  | x :: r, j + 1, q, h, hq => by
    show (pC x ++ psC r)[(j + 1) * 2 + q]? = (pC (nth r j))[q]?
    rw [List.getElem?_append_right (by simp [pC]; omega), show (j + 1) * 2 + q - (pC x).length = j * 2 + q by simp [pC]; omega]
    exact psC_at r j q (by simpa using h) hq
/-- A list of places of the call's own. -/
def OwP (w : World) (base : Nat) (v : Value) (l : List Sp) : Prop := w.ownsRow base 55 2 v l.length (psC l)
theorem OwP.nil (w : World) (base : Nat) : OwP w base (.slice none 0 0) [] := World.ownsRow_nil _ _ _ _
theorem OwP.bl {w w1 : World} {base : Nat} {v : Value} {l : List Sp} (h : OwP w base v l) (hb : Bl w w1) : OwP w1 base v l := own_below h hb
theorem OwP.lower {w : World} {base b0 : Nat} {v : Value} {l : List Sp} (h : OwP w base v l) (hb : b0 ≤ base) : OwP w b0 v l := by
  obtain ⟨h1, h2⟩ := h
  refine ⟨h1, h2.imp id ?_⟩
  rintro ⟨g, cap, cur, e, hg, r⟩
  exact ⟨g, cap, cur, e, Nat.le_trans hb hg, r⟩
/-- A list of places that is read. -/
def RdP (w : World) (A : Option Addr) (l : List Sp) : Prop :=
  l.length ≤ 9223372036854775807 ∧ (0 < l.length → ∃ b off, A = some ⟨b, off, none⟩ ∧ b < w.heap.size ∧ ∀ j, j < l.length → w.cell? ⟨b, off + j * 2, none⟩ = some (.int .i64 (nth l j).sl) ∧ w.cell? ⟨b, off + j * 2 + 1, none⟩ = some (.int .i64 (nth l j).off))
theorem RdP.bl {w W : World} {A : Option Addr} {l : List Sp} (h : RdP w A l) (hg : Bl w W) : RdP W A l := by
  refine ⟨h.1, fun hl => ?_⟩
  obtain ⟨b, off, e, hb, hc⟩ := h.2 hl
  exact ⟨b, off, e, Nat.lt_of_lt_of_le hb hg.size, fun j hj => ⟨(Below.cell hg (p := ⟨b, off + j * 2, none⟩) hb).trans (hc j hj).1, (Below.cell hg (p := ⟨b, off + j * 2 + 1, none⟩) hb).trans (hc j hj).2⟩⟩
theorem OwP.rd {w : World} {base : Nat} {v : Value} {l : List Sp} (h : OwP w base v l) : ∃ A c, v = .slice A l.length c ∧ l.length ≤ c ∧ RdP w A l := by
  have h' := h
  rcases h.2 with ⟨e, h0⟩ | ⟨g, cap, cur, hv, hg, hh, hn, hm, hs, ht⟩
  · exact ⟨none, 0, by rw [h0]; exact e, by omega, by omega, fun hp => by omega⟩
  · refine ⟨some ⟨g, 0, none⟩, cap, hv, hn, Nat.le_trans hn (Nat.le_trans hm (by simp [maxLen])), fun _ => ⟨g, 0, rfl, (Array.getElem?_eq_some_iff.1 hh).1, fun j hj => ?_⟩⟩
    subst hv
    have key : ∀ q, q < 2 → w.cell? ⟨g, 0 + j * 2 + q, none⟩ = (pC (nth l j))[q]? := fun q hq => by
      rw [Nat.zero_add, World.ownsRow.cellAt h' (j * 2 + q) (by omega)]
      exact psC_at l j q hj hq
    exact ⟨key 0 (by omega), key 1 (by omega)⟩
theorem cand_stop {f : List Int} {l : List TC} {n : Int} {m s : Nat} {out : List Sp} (h : (out.length : Int) ≥ n) : candF f l n m s out = out := by
  cases m with
  | zero => rfl
  | succ m => simp only [candF]; rw [if_pos h]
theorem cand_skip {f : List Int} {l : List TC} {n : Int} {m s : Nat} {out : List Sp} (h : ¬ (out.length : Int) ≥ n) (h2 : nth f s = 0 ∨ usedS l s = true) : candF f l n (m + 1) s out = candF f l n m (s + 1) out := by
  simp only [candF]; rw [if_neg h, if_pos h2]
theorem cand_take {f : List Int} {l : List TC} {n : Int} {m s : Nat} {out : List Sp} (h : ¬ (out.length : Int) ≥ n) (h2 : ¬ (nth f s = 0 ∨ usedS l s = true)) {k : Nat} (h3 : fbit (nth f s) 16 0 = some k) : candF f l n (m + 1) s out = candF f l n m (s + 1) (out ++ [⟨s, k⟩]) := by
  simp only [candF]; rw [if_neg h, if_neg h2, h3]
theorem cand_none {f : List Int} {l : List TC} {n : Int} {m s : Nat} {out : List Sp} (h : ¬ (out.length : Int) ≥ n) (h2 : ¬ (nth f s = 0 ∨ usedS l s = true)) (h3 : fbit (nth f s) 16 0 = none) : candF f l n (m + 1) s out = candF f l n m (s + 1) out := by
  simp only [candF]; rw [if_neg h, if_neg h2, h3]
theorem masked_ok {f : List Int} {len : Int} (h : maskedS f len = true) : (f.length : Int) = len ∧ ∀ j, j < f.length → 0 ≤ nth f j ∧ nth f j < 65536 := by
  unfold maskedS at h
  rw [Bool.and_eq_true] at h
  refine ⟨of_decide_eq_true h.1, fun j hj => ?_⟩
  have := h.2
  rw [Bool.not_eq_true', List.any_eq_false] at this
  have := this _ (List.getElem_mem hj)
  rw [nth_eq _ _ hj]
  simp [badM] at this
  omega
end Go.Proofs.Ytcknakbjiklklaa.F
