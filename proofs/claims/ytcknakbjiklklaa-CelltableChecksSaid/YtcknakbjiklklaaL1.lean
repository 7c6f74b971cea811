import Derived.Test.YtcknakbjiklklaaF18
import Derived.Test.YtcknakbjiklklaaF20
/- The law CelltableChecks, walked. -/
namespace Go.Proofs.Ytcknakbjiklklaa.L
open Go.RowKit Go.Sort Go.Proofs.Ytcknakbjiklklaa.B Go.Proofs.Ytcknakbjiklklaa.S Go.Proofs.Ytcknakbjiklklaa.F
set_option linter.unusedVariables false
set_option linter.unusedSimpArgs false
set_option maxHeartbeats 4000000 in
theorem lawChecks (nd len : Int) (A : Option Addr) (c : Nat) (l : List TC) (w : World) (hr : Rd w A l) (hc : l.length ≤ c) :
    Calls Try.prog 3 #[.agg #[.int .i64 nd, .int .i64 len, .slice A l.length c]] w fun e w' => e = .returned (.bool true) ∧ Bl w w' := by
  have hm := mixed
  have hA := awake_
  have hF := fun W => qfew nd len A c l W hr.1
  have hC : ∀ W, Bl w W → _ := fun W h => tcheck nd len A c l W (hr.bl h) hc
  have hQ : ∀ W, Bl w W → _ := fun W h => xcheck nd len A c l W (hr.bl h) hc
  clear hr
  generalize checkT nd len l = q at *
  generalize fewT len l.length = b at *
  go_enter Try.func3, Try.ntmps3
  go_upto_region 3 with (first | (go_at_call 11; (with_reducible refine (hA _).mono ?_); rintro e w' ⟨rfl, hg⟩; obtain ⟨n, os, rfl⟩ := hg.out; clear hg))
  generalize hW : Sort.grow _ _ = W
  have HWe := Hd.mk hW
  clear hW
  have b0 : W.cell? ⟨w.heap.size, 0, none⟩ = some (.int .i64 nd) := by rw [← HWe.out]; go_simp
  have b1 : W.cell? ⟨w.heap.size, 1, none⟩ = some (.int .i64 len) := by rw [← HWe.out]; go_simp
  have b2 : W.cell? ⟨w.heap.size, 2, none⟩ = some (.slice A l.length c) := by rw [← HWe.out]; go_simp
  have B0 : Bl w W := by rw [← HWe.out]; exact (by repeat (first | exact Bl.refl _ | with_reducible apply Bl.alloc | with_reducible apply Bl.grow | with_reducible apply Bl.sd | with_reducible apply Bl.drewN | with_reducible apply Bl.drew))
  have z0 := World.block_lt_of_cell? W _ b0
  dsimp only at z0
  have hC' := fun X (h : Gr W X) => hC X (B0.trans h.bl)
  have hQ' := fun X (h : Gr W X) => hQ X (B0.trans h.bl)
  have HB0 := Hd.mk B0
  clear HWe B0 hC hQ hA
  cases b with
  | false =>
    go_quiet_grown (first | (go_at_call 12; with_reducible exact quiet_grown rfl (hF _)))
    go_wp2
    go_ret
    exact ⟨ret_bool (by simp), HB0.out.trans (by repeat (first | with_reducible exact Bl.refl _ | with_reducible apply Bl.alloc | with_reducible apply Bl.grow | with_reducible apply Bl.sd | with_reducible apply Bl.drewN | with_reducible apply Bl.drew))⟩
  | true =>
    go_quiet_grown (first | (go_at_call 12; with_reducible exact quiet_grown rfl (hF _)) | (go_at_call 13; with_reducible exact quiet_grown rfl (hC' _ (by repeat (first | exact Gr.refl _ | with_reducible apply Gr.alloc | with_reducible apply Gr.grow | with_reducible apply Gr.drewN | with_reducible apply Gr.drew)))) | (go_at_call 14; with_reducible exact quiet_grown rfl (hQ' _ (by repeat (first | exact Gr.refl _ | with_reducible apply Gr.alloc | with_reducible apply Gr.grow | with_reducible apply Gr.drewN | with_reducible apply Gr.drew)))))
    go_wp2
    go_ret
    exact ⟨ret_bool (by simp), HB0.out.trans (by repeat (first | with_reducible exact Bl.refl _ | with_reducible apply Bl.alloc | with_reducible apply Bl.grow | with_reducible apply Bl.sd | with_reducible apply Bl.drewN | with_reducible apply Bl.drew))⟩
end Go.Proofs.Ytcknakbjiklklaa.L
