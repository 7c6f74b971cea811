import Derived.Test.YtlifpafnkagofaaF17
/- The example that each law checks first. -/
namespace Go.Proofs.Ytlifpafnkagofaa.F
open Go.RowKit Go.Sort Go.Proofs.Ytlifpafnkagofaa.B Go.Proofs.Ytlifpafnkagofaa.S
set_option linter.unusedVariables false
set_option linter.unusedSimpArgs false
theorem Rd.bl {w W : World} {A : Option Addr} {l : List Nb} (h : Rd w A l) (hg : Bl w W) : Rd W A l := by
  refine ⟨h.1, fun hl => ?_⟩
  obtain ⟨b, off, e, hb, hc⟩ := h.2 hl
  refine ⟨b, off, e, Nat.lt_of_lt_of_le hb hg.size, fun j hj => ?_⟩
  have hf : ∀ o, W.cell? ⟨b, o, none⟩ = w.cell? ⟨b, o, none⟩ := fun o => Below.cell hg (p := ⟨b, o, none⟩) hb
  unfold C41
  simp only [hf]
  exact hc j hj
def lA : List Nb := [⟨2, 1, 128, 0, ⟨10, 8⟩⟩, ⟨3, 1, 256, 0, ⟨5, 5⟩⟩]
theorem rdA (w : World) : Rd (w.alloc (.cells #[.int .i64 2, .int .i64 1, .int .i64 128, .int .i64 0, .int .i64 10, .int .i64 8, .int .i64 3, .int .i64 1, .int .i64 256, .int .i64 0, .int .i64 5, .int .i64 5] 41)) (some ⟨w.heap.size, 0, none⟩) lA := by
  refine ⟨by decide, fun _ => ⟨w.heap.size, 0, rfl, by simp, fun j hj => ?_⟩⟩
  match j, hj with
  | 0, _ => exact ⟨by go_simp; rfl, by go_simp; rfl, by go_simp; rfl, by go_simp; rfl, by go_simp; rfl, by go_simp; rfl⟩
  | 1, _ => exact ⟨by go_simp; rfl, by go_simp; rfl, by go_simp; rfl, by go_simp; rfl, by go_simp; rfl, by go_simp; rfl⟩
theorem bestA : bestP ⟨4, 1, 3, 256, 384, 65535⟩ lA = (0, true) := by decide +kernel
theorem selA : selectS ⟨4, 1, 3, 256, 384, 65535⟩ lA 95 = (⟨4, 1, 2, 128, 288, 65535⟩, true, 0) := by decide +kernel
theorem selB : selectS ⟨4, 1, 3, 256, 384, 65535⟩ lA 96 = (⟨4, 1, 3, 256, 384, 65535⟩, false, 0) := by decide +kernel
theorem callBest (A : Option Addr) (W : World) (h : Rd W A lA) : Calls Try.prog 13 #[.slice A 2 2, .agg #[.int .i64 4, .int .i64 1, .int .i64 3, .int .i64 256, .int .i64 384, .int .i64 65535]] W fun e w' => e = .returned (.tuple #[.int .i64 0, .bool true]) ∧ Bl W w' := by
  have := pBest A 2 lA 4 1 3 256 384 65535 W h (by decide)
  rw [bestA] at this
  exact this
theorem callSelA (A : Option Addr) (W : World) (h : Rd W A lA) : Calls Try.prog 15 #[.slice A 2 2, .agg #[.int .i64 4, .int .i64 1, .int .i64 3, .int .i64 256, .int .i64 384, .int .i64 65535], .int .i64 95] W fun e w' => e = .returned (.tuple #[.agg #[.int .i64 4, .int .i64 1, .int .i64 2, .int .i64 128, .int .i64 288, .int .i64 65535], .bool true, .int .i64 0]) ∧ Bl W w' := by
  have := pselect A 2 lA 4 1 3 256 384 65535 95 W h (by decide)
  rw [selA] at this
  exact this
theorem callSelB (A : Option Addr) (W : World) (h : Rd W A lA) : Calls Try.prog 15 #[.slice A 2 2, .agg #[.int .i64 4, .int .i64 1, .int .i64 3, .int .i64 256, .int .i64 384, .int .i64 65535], .int .i64 96] W fun e w' => e = .returned (.tuple #[.agg #[.int .i64 4, .int .i64 1, .int .i64 3, .int .i64 256, .int .i64 384, .int .i64 65535], .bool false, .int .i64 0]) ∧ Bl W w' := by
  have := pselect A 2 lA 4 1 3 256 384 65535 96 W h (by decide)
  rw [selB] at this
  exact this
theorem callCost1 (W : World) : Calls Try.prog 20 #[.agg #[.int .i64 10, .int .i64 8]] W fun e w' => e = .returned (.int .i64 160) ∧ Gr W w' := by
  have := pcost 10 8 (by decide) W
  rw [show costS ⟨10, 8⟩ = 160 by decide +kernel] at this
  exact this
theorem callCost2 (W : World) : Calls Try.prog 20 #[.agg #[.int .i64 3, .int .i64 0]] W fun e w' => e = .returned (.int .i64 256) ∧ Gr W w' := by
  have := pcost 3 0 (by decide) W
  rw [show costS ⟨3, 0⟩ = 256 by decide +kernel] at this
  exact this
set_option maxHeartbeats 4000000 in
theorem awake_ (w : World) : Calls Try.prog 11 #[] w fun e w' => e = .returned (.bool true) ∧ Bl w w' := by
  have h0 := rdA w
  have hb := fun W (h : Bl (w.alloc (.cells #[.int .i64 2, .int .i64 1, .int .i64 128, .int .i64 0, .int .i64 10, .int .i64 8, .int .i64 3, .int .i64 1, .int .i64 256, .int .i64 0, .int .i64 5, .int .i64 5] 41)) W) => callBest _ W (h0.bl h)
  have hs := fun W (h : Bl (w.alloc (.cells #[.int .i64 2, .int .i64 1, .int .i64 128, .int .i64 0, .int .i64 10, .int .i64 8, .int .i64 3, .int .i64 1, .int .i64 256, .int .i64 0, .int .i64 5, .int .i64 5] 41)) W) => callSelA _ W (h0.bl h)
  have ht := fun W (h : Bl (w.alloc (.cells #[.int .i64 2, .int .i64 1, .int .i64 128, .int .i64 0, .int .i64 10, .int .i64 8, .int .i64 3, .int .i64 1, .int .i64 256, .int .i64 0, .int .i64 5, .int .i64 5] 41)) W) => callSelB _ W (h0.bl h)
  clear h0
  go_enter Try.func11, Try.ntmps11
  go_upto_region 5 with (first | (go_at_call 13; (with_reducible refine (hb _ (by repeat (first | exact Bl.refl _ | with_reducible apply Bl.alloc | with_reducible apply Bl.grow | with_reducible apply Bl.sd | with_reducible apply Bl.drewN | with_reducible apply Bl.drew))).mono ?_); rintro e w' ⟨rfl, hg⟩; obtain ⟨n1, os1, rfl⟩ := hg.out; clear hg) | (go_at_call 15; (with_reducible refine (hs _ (by repeat (first | exact Bl.refl _ | with_reducible apply Bl.alloc | with_reducible apply Bl.grow | with_reducible apply Bl.sd | with_reducible apply Bl.drewN | with_reducible apply Bl.drew))).mono ?_); rintro e w' ⟨rfl, hg⟩; obtain ⟨n2, os2, rfl⟩ := hg.out; clear hg))
  generalize hW : World.alloc _ _ = W
  have HWe := Hd.mk hW
  clear hW
  have f0 : W.cell? ⟨w.heap.size + (2 + (os1.size + os2.size)), 0, none⟩ = some (.int .i64 4) := by rw [← HWe.out]; go_simp
  have f1 : W.cell? ⟨w.heap.size + (2 + (os1.size + os2.size)), 1, none⟩ = some (.int .i64 1) := by rw [← HWe.out]; go_simp
  have f2 : W.cell? ⟨w.heap.size + (2 + (os1.size + os2.size)), 2, none⟩ = some (.int .i64 2) := by rw [← HWe.out]; go_simp
  have f3 : W.cell? ⟨w.heap.size + (2 + (os1.size + os2.size)), 3, none⟩ = some (.int .i64 128) := by rw [← HWe.out]; go_simp
  have f4 : W.cell? ⟨w.heap.size + (2 + (os1.size + os2.size)), 4, none⟩ = some (.int .i64 288) := by rw [← HWe.out]; go_simp
  have f5 : W.cell? ⟨w.heap.size + (2 + (os1.size + os2.size)), 5, none⟩ = some (.int .i64 65535) := by rw [← HWe.out]; go_simp
  have h0 : W.cell? ⟨w.heap.size + 1, 0, none⟩ = some (.int .i64 4) := by rw [← HWe.out]; go_simp
  have h1 : W.cell? ⟨w.heap.size + 1, 1, none⟩ = some (.int .i64 1) := by rw [← HWe.out]; go_simp
  have h2 : W.cell? ⟨w.heap.size + 1, 2, none⟩ = some (.int .i64 3) := by rw [← HWe.out]; go_simp
  have h3 : W.cell? ⟨w.heap.size + 1, 3, none⟩ = some (.int .i64 256) := by rw [← HWe.out]; go_simp
  have h4 : W.cell? ⟨w.heap.size + 1, 4, none⟩ = some (.int .i64 384) := by rw [← HWe.out]; go_simp
  have h5 : W.cell? ⟨w.heap.size + 1, 5, none⟩ = some (.int .i64 65535) := by rw [← HWe.out]; go_simp
  have k4 : W.cell? ⟨w.heap.size, 4, none⟩ = some (.int .i64 10) := by rw [← HWe.out]; go_simp
  have k5 : W.cell? ⟨w.heap.size, 5, none⟩ = some (.int .i64 8) := by rw [← HWe.out]; go_simp
  have hz : w.heap.size < W.heap.size := by rw [← HWe.out]; first | (go_simp; done) | (simp [go_sem]; omega) | (go_simp; omega)
  have hz1 : w.heap.size + 1 < W.heap.size := by rw [← HWe.out]; first | (go_simp; done) | (simp [go_sem]; omega) | (go_simp; omega)
  have hz5 : w.heap.size + (2 + (os1.size + os2.size)) < W.heap.size := by rw [← HWe.out]; first | (go_simp; done) | (simp [go_sem]; omega) | (go_simp; omega)
  have hB5 : Bl w W := by rw [← HWe.out]; exact (by repeat (first | exact Bl.refl _ | with_reducible apply Bl.alloc | with_reducible apply Bl.grow | with_reducible apply Bl.sd | with_reducible apply Bl.drewN | with_reducible apply Bl.drew))
  have hB6 : Bl (w.alloc (.cells #[.int .i64 2, .int .i64 1, .int .i64 128, .int .i64 0, .int .i64 10, .int .i64 8, .int .i64 3, .int .i64 1, .int .i64 256, .int .i64 0, .int .i64 5, .int .i64 5] 41)) W := by rw [← HWe.out]; exact (by repeat (first | exact Bl.refl _ | with_reducible apply Bl.alloc | with_reducible apply Bl.grow | with_reducible apply Bl.sd | with_reducible apply Bl.drewN | with_reducible apply Bl.drew))
  have ht' := fun X (h : Bl W X) => ht X (hB6.trans h)
  clear ht hB6 HWe hs hb
  have HB5 := Hd.mk hB5
  clear hB5
  go_wp2_with (first | (go_at_call 15; (with_reducible refine (ht' _ (by repeat (first | exact Bl.refl _ | with_reducible apply Bl.alloc | with_reducible apply Bl.grow | with_reducible apply Bl.sd | with_reducible apply Bl.drewN | with_reducible apply Bl.drew))).mono ?_); rintro e w' ⟨rfl, hg⟩; obtain ⟨n, os, rfl⟩ := hg.out; clear hg) | (go_at_call 20; (with_reducible refine (callCost1 _).mono ?_); rintro e w' ⟨rfl, hg⟩; obtain ⟨n, os, rfl⟩ := hg.out; clear hg) | (go_at_call 20; (with_reducible refine (callCost2 _).mono ?_); rintro e w' ⟨rfl, hg⟩; obtain ⟨n, os, rfl⟩ := hg.out; clear hg))
  go_ret
  exact ⟨rfl, HB5.out.trans (by repeat (first | exact Bl.refl _ | with_reducible apply Bl.alloc | with_reducible apply Bl.grow | with_reducible apply Bl.sd | with_reducible apply Bl.drewN | with_reducible apply Bl.drew))⟩
end Go.Proofs.Ytlifpafnkagofaa.F
