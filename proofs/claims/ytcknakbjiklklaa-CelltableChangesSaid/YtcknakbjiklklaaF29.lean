import Derived.Test.YtcknakbjiklklaaF28
import Derived.Test.YtcknakbjiklklaaF9
/- hopmeshref16: formed. -/
namespace Go.Proofs.Ytcknakbjiklklaa.F
open Go.RowKit Go.Sort Go.Proofs.Ytcknakbjiklklaa.B Go.Proofs.Ytcknakbjiklklaa.S
set_option linter.unusedVariables false
set_option linter.unusedSimpArgs false
set_option maxHeartbeats 4000000 in
set_option maxRecDepth 100000 in
theorem qformed (len offs : Int) (A : Option Addr) (c : Nat) (l : List SC) (w : World) (hr : RdS w A l) (hc : l.length ≤ c) :
    Calls Try.prog 51 #[.agg #[.int .i64 len, .int .i64 offs, .slice A l.length c]] w fun e w' => e = .returned (.bool (rightS len offs l)) ∧ Gr w w' := by
  have hl := hr.1
  have HR := Hd.mk hr
  clear hr
  by_cases h : (1 ≤ len ∧ len ≤ 512) ∧ (1 ≤ offs ∧ offs ≤ 16) ∧ l.length ≤ 512
  · have hs : rightS len offs l = !decide (0 ≤ idxF (badC len offs) l 0) := by unfold rightS; rw [decide_eq_true h, ← hasF_any]; rfl
    rw [hs]
    have g1 : ¬ len < 1 := by omega
    have g2 : ¬ 512 < len := by omega
    have g3 : ¬ offs < 1 := by omega
    have g4 : ¬ 16 < offs := by omega
    have g5 : ¬ (512 : Int) < (l.length : Int) := by omega
    clear hs h
    generalize hres : idxF (badC len offs) l 0 = res
    have HRes := Hd.mk hres
    clear hres
    go_enter Try.func51, Try.ntmps51
    go_upto_region 4 with fail
    generalize hW : World.alloc _ _ = W
    have HWe := Hd.mk hW
    clear hW
    have b0 : W.cell? ⟨w.heap.size, 0, none⟩ = some (.int .i64 len) := by rw [← HWe.out]; go_simp
    have b1 : W.cell? ⟨w.heap.size, 1, none⟩ = some (.int .i64 offs) := by rw [← HWe.out]; go_simp
    have b2 : W.cell? ⟨w.heap.size, 2, none⟩ = some (.slice A l.length c) := by rw [← HWe.out]; go_simp
    have G0 : Gr w W := by rw [← HWe.out]; exact (by repeat (first | exact Gr.refl _ | with_reducible apply Gr.alloc | with_reducible apply Gr.grow | with_reducible apply Gr.drewN | with_reducible apply Gr.drew))
    have z0 := World.block_lt_of_cell? W _ b0
    dsimp only at z0
    have HR2 := Hd.mk (HR.out.gr G0)
    have HG := Hd.mk G0
    clear HWe G0 HR
    go_loopg [3, 4] l.length (fun gg s3 s4 wr => ∃ k : Nat, k ≤ l.length ∧ l.length - k ≤ gg ∧ s3 = .int .i64 k ∧ Hd (Gr W wr) ∧ Hd (res = idxF (badC len offs) (l.drop k) k))
    case atStart => exact ⟨0, Nat.zero_le _, by omega, rfl, ⟨Gr.refl _⟩, ⟨HRes.out.symm⟩⟩
    case round =>
      obtain ⟨k, hk, hg, rfl, GW, CF⟩ := hrel
      have o := fun (q : Nat) => GW.out.below.cell (p := ⟨w.heap.size, q, none⟩) z0
      have d0 := (o 0).trans b0
      have d1 := (o 1).trans b1
      have d2 := (o 2).trans b2
      have zd : w.heap.size < wr.heap.size := World.block_lt_of_cell? wr _ d0
      clear o
      by_cases hlt : k < l.length
      · obtain ⟨b, off, rfl, hb, hcell⟩ := (HR2.out.gr GW.out).2 (by omega)
        obtain ⟨k0, k1, k2, k3, k4⟩ := hcell k hlt
        have hltz : (k : Int) < (l.length : Int) := by omega
        have hkz : (0 : Int) ≤ (k : Int) := by omega
        have HYes := Hd.mk (idxF_yes (p := badC len offs) hlt)
        have HNo := Hd.mk (idxF_no (p := badC len offs) hlt)
        clear hcell
        generalize hnx : nth l k = x at *
        obtain ⟨x0, x1, x2, x3, x4⟩ := x
        have HX := Hd.mk hnx
        clear hnx
        dsimp only at *
        go_wp2
        all_goals first
          | (go_ret
             refine ⟨ret_bool ?_, HG.out.trans (GW.out.trans (by repeat (first | exact Gr.refl _ | with_reducible apply Gr.alloc | with_reducible apply Gr.grow | with_reducible apply Gr.drewN | with_reducible apply Gr.drew)))⟩
             rw [CF.out, HYes.out (by (try rw [HX.out]); simp only [badC, win, Bool.or_eq_true, decide_eq_true_eq, Bool.not_eq_true', decide_eq_false_iff_not, beq_iff_eq]; first | omega | (rename_i hh; simp only [beq_iff_eq] at hh; omega)), decide_eq_true (by omega)]
             rfl)
          | (go_roundg (l.length - (k + 1))
             case measure => omega
             case rel =>
               exact ⟨k + 1, by omega, by omega, by go_num, ⟨GW.out.trans (by repeat (first | exact Gr.refl _ | with_reducible apply Gr.alloc | with_reducible apply Gr.grow | with_reducible apply Gr.drewN | with_reducible apply Gr.drew))⟩, ⟨by rw [CF.out, HNo.out (by (try rw [HX.out]); simp only [badC, win, Bool.or_eq_false_iff, decide_eq_false_iff_not, Bool.not_eq_false', decide_eq_true_eq, beq_eq_false_iff_ne]; first | omega | (rename_i hh; simp only [beq_iff_eq] at hh; omega))]⟩⟩)
      · obtain rfl : k = l.length := by omega
        have hltz : ¬ ((l.length : Int) < (l.length : Int)) := by omega
        go_wp2
        go_ret
        exact ⟨ret_bool (by rw [CF.out, idxF_end, decide_eq_false (by omega)]; rfl), HG.out.trans (GW.out.trans (by repeat (first | exact Gr.refl _ | with_reducible apply Gr.alloc | with_reducible apply Gr.grow | with_reducible apply Gr.drewN | with_reducible apply Gr.drew)))⟩
  · have hs : rightS len offs l = false := by unfold rightS; rw [decide_eq_false h]; rfl
    rw [hs]
    clear hs
    have hq : len < 1 ∨ ¬ len < 1 ∧ (512 < len ∨ ¬ 512 < len ∧ (offs < 1 ∨ ¬ offs < 1 ∧ (16 < offs ∨ ¬ 16 < offs ∧ (512 : Int) < (l.length : Int)))) := by omega
    clear h
    rcases hq with h | ⟨h, h1 | ⟨h1, h2 | ⟨h2, h3 | ⟨h3, h4⟩⟩⟩⟩
    all_goals
      go_enter Try.func51, Try.ntmps51
      go_wp2
      go_ret
      exact ⟨rfl, (by repeat (first | exact Gr.refl _ | with_reducible apply Gr.alloc | with_reducible apply Gr.grow | with_reducible apply Gr.drewN | with_reducible apply Gr.drew))⟩
end Go.Proofs.Ytcknakbjiklklaa.F
