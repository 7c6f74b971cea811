import Derived.Test.YtcknakbjiklklaaF3
/- celltable.right. -/
namespace Go.Proofs.Ytcknakbjiklklaa.F
open Go.RowKit Go.Sort Go.Proofs.Ytcknakbjiklklaa.B Go.Proofs.Ytcknakbjiklklaa.S
set_option linter.unusedVariables false
set_option linter.unusedSimpArgs false
set_option maxHeartbeats 4000000 in
theorem sright (len offs : Int) (A : Option Addr) (c : Nat) (l : List SC) (w : World) (hr : RdS w A l) (hc : l.length ≤ c) :
    Calls Try.prog 48 #[.agg #[.int .i64 len, .int .i64 offs, .slice A l.length c]] w fun e w' => e = .returned (.bool (rightS len offs l)) ∧ Gr w w' := by
  have hl := hr.1
  have HR := Hd.mk hr
  clear hr
  by_cases h : (1 ≤ len ∧ len ≤ 512) ∧ (1 ≤ offs ∧ offs ≤ 16) ∧ l.length ≤ 512
  · have hs : rightS len offs l = !hasF (badC len offs) l := by unfold rightS; rw [decide_eq_true h, hasF_any]; rfl
    rw [hs]
    have g1 : ¬ len < 1 := by omega
    have g2 : ¬ 512 < len := by omega
    have g3 : ¬ offs < 1 := by omega
    have g4 : ¬ 16 < offs := by omega
    have g5 : ¬ (512 : Int) < (l.length : Int) := by omega
    clear hs h
    go_enter Try.func48, Try.ntmps48
    go_upto_region 3 with fail
    generalize hW : World.alloc _ _ = W
    have HWe := Hd.mk hW
    clear hW
    have b0 : W.cell? ⟨w.heap.size, 0, none⟩ = some (.int .i64 len) := by rw [← HWe.out]; go_simp
    have b1 : W.cell? ⟨w.heap.size, 1, none⟩ = some (.int .i64 offs) := by rw [← HWe.out]; go_simp
    have b2 : W.cell? ⟨w.heap.size, 2, none⟩ = some (.slice A l.length c) := by rw [← HWe.out]; go_simp
    have G0 : Gr w W := by rw [← HWe.out]; exact (by repeat (first | exact Gr.refl _ | with_reducible apply Gr.alloc | with_reducible apply Gr.grow | with_reducible apply Gr.drewN | with_reducible apply Gr.drew))
    have z0 := World.block_lt_of_cell? W _ b0
    dsimp only at z0
    have hH := shasf 73 #[.pointer (some ⟨w.heap.size, 0, none⟩)] eq73 (badC len offs) A c l W (HR.out.gr G0) hc (fun x Y hY => clo73 w.heap.size len offs x Y
      ((hY.below.cell (p := ⟨w.heap.size, 0, none⟩) z0).trans b0) ((hY.below.cell (p := ⟨w.heap.size, 1, none⟩) z0).trans b1))
    have HG := Hd.mk G0
    generalize hq : hasF (badC len offs) l = q at hH
    have HQ := Hd.mk hq
    clear hq
    clear HWe G0
    go_wp2_with (first | (go_at_call 23; (with_reducible refine hH.mono ?_); rintro e w' ⟨rfl, hg⟩; obtain ⟨n, os, rfl⟩ := hg.out; clear hg))
    go_ret
    exact ⟨ret_bool (by rw [HQ.out]), HG.out.trans (by repeat (first | exact Gr.refl _ | with_reducible apply Gr.alloc | with_reducible apply Gr.grow | with_reducible apply Gr.drewN | with_reducible apply Gr.drew))⟩
  · have hs : rightS len offs l = false := by unfold rightS; rw [decide_eq_false h]; rfl
    rw [hs]
    clear hs
    have hq : len < 1 ∨ ¬ len < 1 ∧ (512 < len ∨ ¬ 512 < len ∧ (offs < 1 ∨ ¬ offs < 1 ∧ (16 < offs ∨ ¬ 16 < offs ∧ (512 : Int) < (l.length : Int)))) := by omega
    clear h
    rcases hq with h | ⟨h, h1 | ⟨h1, h2 | ⟨h2, h3 | ⟨h3, h4⟩⟩⟩⟩
    all_goals
      go_enter Try.func48, Try.ntmps48
      go_wp2
      go_ret
      exact ⟨rfl, (by repeat (first | exact Gr.refl _ | with_reducible apply Gr.alloc | with_reducible apply Gr.grow | with_reducible apply Gr.drewN | with_reducible apply Gr.drew))⟩
end Go.Proofs.Ytcknakbjiklklaa.F
