import Derived.Test.YtcknakbjiklklaaS3
import Derived.Test.YtcknakbjiklklaaF2
import Derived.Test.YtcknakbjiklklaaI1
import Derived.Shelf.Abstract
import Derived.Lib.SliceRun
import Derived.Lib.Walk
/- Own lists of cells; slices.Clone. -/
namespace Go.Proofs.Ytcknakbjiklklaa.F
open Go.RowKit Go.Sort Go.Proofs.Ytcknakbjiklklaa.B Go.Proofs.Ytcknakbjiklklaa.S
set_option linter.unusedVariables false
set_option linter.unusedSimpArgs false
theorem cell?_alloc_old {w : World} {a : Addr} {u : Value} {o : Obj} (h : w.cell? a = some u) : (w.alloc o).cell? a = some u := (World.cell?_of_block (Below.heap_alloc w o a.block (World.block_lt_of_cell? w a h))).trans h
theorem Rd.cells {w : World} {A : Option Addr} {l : List TC} (h : Rd w A l) : ∀ ad, A = some ad → ∀ j u, (tcsC l)[j]? = some u → w.cell? (ad.add j) = some u := by
  intro ad hA j u hj
  have hlt := (List.getElem?_eq_some_iff.1 hj).1
  rw [tcsC_len] at hlt
  obtain ⟨b, off, e, hb, hc⟩ := h.2 (by omega)
  rw [hA] at e
  injection e with e
  subst e
  have hq : j % 6 < 6 := Nat.mod_lt _ (by omega)
  have hj6 : j / 6 < l.length := by omega
  have := tcsC_at l (j / 6) (j % 6) hj6 hq
  rw [show j / 6 * 6 + j % 6 = j by omega, hj] at this
  obtain ⟨e0, e1, e2, e3, e4, e5⟩ := hc (j / 6) hj6
  rw [Addr.add_lit, show off + j = off + j / 6 * 6 + j % 6 by omega]
  generalize j % 6 = q at *
  match q, hq with
  | 0, _ => rw [Nat.add_zero, e0]; simpa [tcC] using this.symm
  | 1, _ => rw [e1]; simpa [tcC] using this.symm
  | 2, _ => rw [e2]; simpa [tcC] using this.symm
  | 3, _ => rw [e3]; simpa [tcC] using this.symm
  | 4, _ => rw [e4]; simpa [tcC] using this.symm
  | 5, _ => rw [e5]; simpa [tcC] using this.symm
/-- A list of the call's own. -/
def Ow (w : World) (base : Nat) (v : Value) (l : List TC) : Prop := w.ownsRow base 43 6 v l.length (tcsC l)
theorem Ow.rd {w : World} {base : Nat} {v : Value} {l : List TC} (h : Ow w base v l) : ∃ A c, v = .slice A l.length c ∧ l.length ≤ c ∧ Rd w A l := by
  have h' := h
  rcases h.2 with ⟨e, h0⟩ | ⟨g, cap, cur, hv, hg, hh, hn, hm, hs, ht⟩
  · exact ⟨none, 0, by rw [h0]; exact e, by omega, by omega, fun hp => by omega⟩
  · refine ⟨some ⟨g, 0, none⟩, cap, hv, hn, Nat.le_trans hn (Nat.le_trans hm (by simp [maxLen])), fun _ => ⟨g, 0, rfl, (Array.getElem?_eq_some_iff.1 hh).1, fun j hj => ?_⟩⟩
    subst hv
    have key : ∀ q, q < 6 → w.cell? ⟨g, 0 + j * 6 + q, none⟩ = (tcC (nth l j))[q]? := fun q hq => by
      rw [Nat.zero_add, World.ownsRow.cellAt h' (j * 6 + q) (by omega)]
      exact tcsC_at l j q hj hq
    exact ⟨key 0 (by omega), key 1 (by omega), key 2 (by omega), key 3 (by omega), key 4 (by omega), key 5 (by omega)⟩
theorem Ow.nil (w : World) (base : Nat) : Ow w base (.slice none 0 0) [] := World.ownsRow_nil _ _ _ _
theorem Ow.bl {w w1 : World} {base : Nat} {v : Value} {l : List TC} (h : Ow w base v l) (hb : Bl w w1) : Ow w1 base v l := own_below h hb
set_option maxHeartbeats 2000000 in
theorem tclone (A : Option Addr) (c : Nat) (l : List TC) (w : World) (hr : Rd w A l) (hc : l.length ≤ c) (hn : l.length ≤ 1000000) :
    Calls Try.prog 62 #[.slice A l.length c] w fun e w' => ∃ v, e = .returned v ∧ Ow w' w.heap.size v l ∧ Bl w w' := by
  obtain ⟨i0, hi, hz0, hz1, hz2⟩ := info_of infoE
  have q22 : ∀ (w : World) (a : Option Addr) (n c n' c' : Nat), (binOp .eql 22 (.slice a n c) (.slice none n' c')).run Try.prog w = .ok (.bool a.isNone) w := fun w a n c n' c' => Lib.run_eql_slice_nil w _ _ a n c n' c' Try.underlying22
  cases A with
  | none =>
    have h0 : l.length = 0 := by
      rcases Nat.eq_zero_or_pos l.length with h | h
      · exact h
      · obtain ⟨_, _, e, _⟩ := hr.2 h; cases e
    obtain rfl : l = [] := List.eq_nil_of_length_eq_zero h0
    go_enter Try.func62, Try.ntmps62
    go_wp2
    go_ret
    exact ⟨_, rfl, Ow.nil _ _, Bl.refl _⟩
  | some ad =>
    have HC := Hd.mk (hr.cells ad rfl)
    clear hr
    have hl := tcsC_len l
    have h1 := tcsC_one l
    unfold Ow
    generalize tcsC l = news at *
    generalize l.length = n at *
    go_enter Try.func62, Try.ntmps62
    go_wp2_with (at_builtin; refine wpList_append_own_at _ rfl _ _ 22 rfl w.heap.size 43 i0 _ 6 48 Try.underlying22 hi hz0 hz1 hz2 rfl (by decide) _ _ _ rfl (World.ownsRow_made w #[] 0 (Nat.le_refl _) (Nat.zero_le _) (by simp)) ad n c news rfl hl (fun j u hj => cell?_alloc_old (HC.out j u hj)) h1 (by simp only [maxLen]; omega) (by omega) (by simp) ?_)
    intro v1 w1 hown1 hgr1 _ _
    have HO1 := Hd.mk hown1
    have HG1 := Hd.mk hgr1
    clear hown1 hgr1
    go_wp2
    go_ret
    exact ⟨_, rfl, by simpa using HO1.out, Bl.grown ((Bl.refl w).alloc _) HG1.out (by intro k hk; simp [Value.ownBlock] at hk; omega)⟩
end Go.Proofs.Ytcknakbjiklklaa.F
