import Derived.Test.YtcknakbjiklklaaF21
import Derived.Test.YtcknakbjiklklaaS8
/- celltable.Between. -/
namespace Go.Proofs.Ytcknakbjiklklaa.F
open Go.RowKit Go.Sort Go.Proofs.Ytcknakbjiklklaa.B Go.Proofs.Ytcknakbjiklklaa.S
set_option linter.unusedVariables false
set_option linter.unusedSimpArgs false
theorem eq63 : ∀ args W, (callFunc 63 args).run Try.prog W = .ok (.enter 63 args) W := enters_of Try.func63 (by kernel_rfl) rfl
theorem clo63 (b : Nat) (t : Int) (x : TC) (w : World) (hc : w.cell? ⟨b, 0, none⟩ = some (.int .i64 t)) : Calls Try.prog 63 (#[vT x] ++ #[.pointer (some ⟨b, 0, none⟩)]) w fun e w' => e = .returned (.bool (!agreed t x)) ∧ Gr w w' := by
  obtain ⟨x0, x1, x2, x3, x4, x5⟩ := x
  have hb := World.block_lt_of_cell? w _ hc
  unfold agreed
  simp only [vT]
  by_cases h : x2 = 2
  · have h' : (x2 == 2) = true := by simp [h]
    have h'' : (x2 != 2) = false := by simp [h]
    have H := Hd.mk h
    clear h
    go_enter Try.func63, Try.ntmps63
    go_wp2
    go_ret
    exact ⟨ret_bool (by simp [H.out, bne]), (by repeat (first | exact Gr.refl _ | with_reducible apply Gr.alloc | with_reducible apply Gr.grow | with_reducible apply Gr.drewN | with_reducible apply Gr.drew))⟩
  · have h' : (x2 == 2) = false := by simp [h]
    have h'' : (x2 != 2) = true := by simp [h]
    have H := Hd.mk h
    clear h
    go_enter Try.func63, Try.ntmps63
    go_wp2
    go_ret
    exact ⟨ret_bool (by simp [H.out]), (by repeat (first | exact Gr.refl _ | with_reducible apply Gr.alloc | with_reducible apply Gr.grow | with_reducible apply Gr.drewN | with_reducible apply Gr.drew))⟩
theorem keep_bet (peer : Int) (l : List TC) : keepL (fun x => !agreed peer x) l = l.filter (agreed peer) := by
  unfold keepL
  simp
set_option maxHeartbeats 4000000 in
theorem tbetween (nd len : Int) (A : Option Addr) (c : Nat) (l : List TC) (peer : Int) (w : World) (hr : Rd w A l) (hc : l.length ≤ c) :
    Calls Try.prog 28 #[.agg #[.int .i64 nd, .int .i64 len, .slice A l.length c], .int .i64 peer] w fun e w' => ∃ v, e = .returned v ∧ Ow w' w.heap.size v (betS nd len l peer) ∧ Bl w w' := by
  have hC : ∀ W, Gr w W → _ := fun W h => tcheck nd len A c l W (hr.gr h) hc
  by_cases h1 : checkT nd len l = 0
  · obtain ⟨_, _, h512, _, _⟩ := checkT_ok h1
    have hL : ∀ W, Bl w W → _ := fun W h => tclone A c l W (hr.bl h) hc (by omega)
    have hs : betS nd len l peer = keepL (fun x => !agreed peer x) l := by unfold betS; rw [if_neg (by simp [h1]), keep_bet]
    rw [hs]
    rw [h1] at hC
    have hl3 : l.length ≤ 1000000 := by omega
    clear hr h1 hs
    go_enter Try.func28, Try.ntmps28
    go_upto_region 3 with (first | (go_at_call 13; (with_reducible refine (hC _ (by repeat (first | exact Gr.refl _ | with_reducible apply Gr.alloc | with_reducible apply Gr.grow | with_reducible apply Gr.drewN | with_reducible apply Gr.drew))).mono ?_); rintro e w' ⟨rfl, hg⟩; obtain ⟨n1, os1, rfl⟩ := hg.out; clear hg))
    generalize hW : Sort.grow _ _ = W
    have HWe := Hd.mk hW
    clear hW
    have g0 : W.cell? ⟨w.heap.size + 1, 0, none⟩ = some (.int .i64 peer) := by rw [← HWe.out]; go_simp
    have g2 : W.cell? ⟨w.heap.size, 2, none⟩ = some (.slice A l.length c) := by rw [← HWe.out]; go_simp
    have hB5 : Bl w W := by rw [← HWe.out]; exact (by repeat (first | exact Bl.refl _ | with_reducible apply Bl.alloc | with_reducible apply Bl.grow | with_reducible apply Bl.sd | with_reducible apply Bl.drewN | with_reducible apply Bl.drew))
    have z0 := World.block_lt_of_cell? W _ g0
    have z2 := World.block_lt_of_cell? W _ g2
    dsimp only at z0 z2
    have hLW := hL W hB5
    have HB5 := Hd.mk hB5
    have hws := hB5.size
    clear HWe hB5 hL hC
    go_wp2_with fail
    refine hLW.mono ?_
    rintro e W1 ⟨v, rfl, hown, hbl⟩
    have hdel := tdelf 63 #[.pointer (some ⟨w.heap.size + 1, 0, none⟩)] eq63 (fun x => !agreed peer x) W.heap.size v l W1 hown hl3 hbl.size
      (fun x X hX => clo63 (w.heap.size + 1) peer x X
        (by rw [hX.1.cell (p := ⟨w.heap.size + 1, 0, none⟩) z0, Below.cell hbl (p := ⟨w.heap.size + 1, 0, none⟩) z0]; exact g0))
    have HBl := Hd.mk hbl
    clear hown hbl hLW
    go_wp2_with fail
    refine hdel.mono ?_
    rintro e W2 ⟨v2, rfl, hown2, hbb⟩
    have hb2 : Bl W W2 := by
      have h := HBl.out
      exact ⟨hbb.1.os.trans h.os, hbb.1.tape.trans h.tape, hbb.1.output.trans h.output, hbb.2, fun k hk => (hbb.1.block k hk).trans (h.block k hk)⟩
    have HO2 := Hd.mk hown2
    have HB2 := Hd.mk hb2
    clear hdel hown2 hbb hb2
    go_wp2
    go_ret
    exact ⟨_, rfl, Ow.lower HO2.out hws, HB5.out.trans HB2.out⟩
  · have hs : betS nd len l peer = [] := by unfold betS; rw [if_pos h1]
    rw [hs]
    have h2 : (checkT nd len l != 0) = true := by simp [h1]
    generalize checkT nd len l = q at *
    clear hr hs h1
    go_enter Try.func28, Try.ntmps28
    go_wp2_with (first | (go_at_call 13; (with_reducible refine (hC _ (by repeat (first | exact Gr.refl _ | with_reducible apply Gr.alloc | with_reducible apply Gr.grow | with_reducible apply Gr.drewN | with_reducible apply Gr.drew))).mono ?_); rintro e w' ⟨rfl, hg⟩; obtain ⟨n, os, rfl⟩ := hg.out; clear hg))
    go_ret
    exact ⟨_, rfl, Ow.nil _ _, (by repeat (first | exact Bl.refl _ | with_reducible apply Bl.alloc | with_reducible apply Bl.grow | with_reducible apply Bl.sd | with_reducible apply Bl.drewN | with_reducible apply Bl.drew))⟩
end Go.Proofs.Ytcknakbjiklklaa.F
