import Derived.Test.YtlifpafnkagofaaF26
import Derived.Test.YtlifpafnkagofaaF20
import Derived.Test.YtlifpafnkagofaaS15
/- parent.Forget. -/
namespace Go.Proofs.Ytlifpafnkagofaa.F
open Go.RowKit Go.Sort Go.Proofs.Ytlifpafnkagofaa.B Go.Proofs.Ytlifpafnkagofaa.S
set_option linter.unusedVariables false
set_option linter.unusedSimpArgs false
def oldW (slot age : Int) (x : Nb) : Bool := decide (IntKind.i64.wrap (slot - x.sl) ≥ age)
theorem keep_same {slot age : Int} {l : List Nb} (h0 : 0 ≤ slot) (h1 : slot ≤ 9223372036854775807) (hok : ∀ k, k < l.length → okN (nth l k) = true) : keepL (oldW slot age) l = l.filter fun x => !oldN slot age x := by
  unfold keepL
  apply List.filter_congr
  intro x hx
  obtain ⟨j, hj, rfl⟩ := List.getElem_of_mem hx
  have := (okN_iff _).1 (hok j hj)
  rw [nth_eq l j hj] at this
  unfold oldW oldN
  rw [IntWalk.i64_in _ (by omega)]
theorem clo62 (b d : Nat) (slot age : Int) (x : Nb) (w : World) (h0 : w.cell? ⟨b, 0, none⟩ = some (.int .i64 slot)) (h1 : w.cell? ⟨d, 0, none⟩ = some (.int .i64 age)) :
    Calls Try.prog 62 (#[nbV x] ++ #[.pointer (some ⟨b, 0, none⟩), .pointer (some ⟨d, 0, none⟩)]) w fun e w' => e = .returned (.bool (oldW slot age x)) ∧ Gr w w' := by
  obtain ⟨x0, x1, x2, x3, ⟨x4, x5⟩⟩ := x
  have hb := World.block_lt_of_cell? w _ h0
  have hd := World.block_lt_of_cell? w _ h1
  unfold oldW
  dsimp only
  generalize hq : IntKind.i64.wrap (slot - x3) = q
  have HQ := Hd.mk hq
  simp only [nbV]
  go_enter Try.func62, Try.ntmps62
  go_wp2
  go_ret
  refine ⟨ret_bool ?_, (by repeat (first | exact Gr.refl _ | with_reducible apply Gr.alloc | with_reducible apply Gr.grow | with_reducible apply Gr.drewN | with_reducible apply Gr.drew))⟩
  first | rfl | (rw [← HQ.out]; rfl) | (rw [← HQ.out, IntKind.wrap_i64]; done) | (rw [← HQ.out, IntKind.wrap_i64]; rfl)
/-- A list that is handed back. -/
def Hand (w : World) (v : Value) (l : List Nb) : Prop := ∃ A c, v = .slice A l.length c ∧ l.length ≤ c ∧ Rd w A l
set_option maxHeartbeats 4000000 in
theorem pforget (A : Option Addr) (c : Nat) (l : List Nb) (slot age : Int) (w : World) (hr : Rd w A l) (hc : l.length ≤ c) (hs : slot ≤ 9223372036854775807) :
    Calls Try.prog 36 #[.slice A l.length c, .int .i64 slot, .int .i64 age] w fun e w' => ∃ v, e = .returned v ∧ Hand w' v (forgetS l slot age) ∧ Bl w w' := by
  have hC : ∀ W, Bl w W → _ := fun W h => pcheck A c l W (hr.bl h) hc
  have HR := Hd.mk hr
  by_cases h1 : checkL l = 0 ∧ 0 ≤ slot ∧ 0 ≤ age
  · obtain ⟨h1, h2, h3⟩ := h1
    obtain ⟨h32, hok, hso⟩ := checkL_ok h1
    have hL : ∀ W, Bl w W → _ := fun W h => pclone A c l W (hr.bl h) hc (by omega)
    have hf : forgetS l slot age = keepL (oldW slot age) l := by
      unfold forgetS
      rw [if_neg (by omega), keep_same h2 hs hok]
    rw [hf]
    rw [h1] at hC
    have hl3 : l.length ≤ 1000000 := by omega
    clear hr h1 hok hso hf
    go_enter Try.func36, Try.ntmps36
    go_upto_region 3 with (first | (go_at_call 17; (with_reducible refine (hC _ (by repeat (first | exact Bl.refl _ | with_reducible apply Bl.alloc | with_reducible apply Bl.grow | with_reducible apply Bl.sd | with_reducible apply Bl.drewN | with_reducible apply Bl.drew))).mono ?_); rintro e w' ⟨rfl, hg⟩; obtain ⟨n1, os1, rfl⟩ := hg.out; clear hg))
    generalize hW : Sort.grow _ _ = W
    have HWe := Hd.mk hW
    clear hW
    have g0 : W.cell? ⟨w.heap.size, 0, none⟩ = some (.int .i64 slot) := by rw [← HWe.out]; go_simp
    have g1 : W.cell? ⟨w.heap.size + 1, 0, none⟩ = some (.int .i64 age) := by rw [← HWe.out]; go_simp
    have hB5 : Bl w W := by rw [← HWe.out]; exact (by repeat (first | exact Bl.refl _ | with_reducible apply Bl.alloc | with_reducible apply Bl.grow | with_reducible apply Bl.sd | with_reducible apply Bl.drewN | with_reducible apply Bl.drew))
    have z0 := World.block_lt_of_cell? W _ g0
    have z1 := World.block_lt_of_cell? W _ g1
    have hLW := hL W hB5
    have HB5 := Hd.mk hB5
    clear HWe hB5 hL hC
    go_wp2_with fail
    refine hLW.mono ?_
    rintro e W1 ⟨v, rfl, hown, hbl⟩
    have hdel := pdelf 62 #[.pointer (some ⟨w.heap.size, 0, none⟩), .pointer (some ⟨w.heap.size + 1, 0, none⟩)] eq62 (oldW slot age) W.heap.size v l W1 hown hl3 hbl.size
      (fun x X hX => clo62 w.heap.size (w.heap.size + 1) slot age x X
        (by rw [hX.1.cell (p := ⟨w.heap.size, 0, none⟩) z0, Below.cell hbl (p := ⟨w.heap.size, 0, none⟩) z0]; exact g0)
        (by rw [hX.1.cell (p := ⟨w.heap.size + 1, 0, none⟩) z1, Below.cell hbl (p := ⟨w.heap.size + 1, 0, none⟩) z1]; exact g1))
    have HBl := Hd.mk hbl
    clear hown hbl hLW
    go_wp2_with fail
    refine hdel.mono ?_
    rintro e W2 ⟨v2, rfl, hown2, hbb⟩
    have hb2 : Bl W W2 := by
      have h := HBl.out
      exact ⟨hbb.1.os.trans h.os, hbb.1.tape.trans h.tape, hbb.1.output.trans h.output, hbb.2, fun k hk => (hbb.1.block k hk).trans (h.block k hk)⟩
    have HO2 := Hd.mk hown2
    have HB2 := Hd.mk hb2
    clear hdel hown2 hbb hb2
    go_wp2
    go_ret
    exact ⟨_, rfl, HO2.out.rd, HB5.out.trans HB2.out⟩
  · have hf : forgetS l slot age = l := by
      unfold forgetS
      rw [if_pos (by omega)]
    rw [hf]
    clear hr hf
    by_cases k1 : checkL l = 0
    · have hsa : slot < 0 ∨ age < 0 := by omega
      rw [k1] at hC
      clear k1 h1
      rcases hsa with hsa | hsa
      · go_enter Try.func36, Try.ntmps36
        go_wp2_with (first | (go_at_call 17; (with_reducible refine (hC _ (by repeat (first | exact Bl.refl _ | with_reducible apply Bl.alloc | with_reducible apply Bl.grow | with_reducible apply Bl.sd | with_reducible apply Bl.drewN | with_reducible apply Bl.drew))).mono ?_); rintro e w' ⟨rfl, hg⟩; obtain ⟨n, os, rfl⟩ := hg.out; clear hg))
        go_ret
        exact ⟨_, rfl, ⟨A, c, rfl, hc, HR.out.bl (by repeat (first | exact Bl.refl _ | with_reducible apply Bl.alloc | with_reducible apply Bl.grow | with_reducible apply Bl.sd | with_reducible apply Bl.drewN | with_reducible apply Bl.drew))⟩, (by repeat (first | exact Bl.refl _ | with_reducible apply Bl.alloc | with_reducible apply Bl.grow | with_reducible apply Bl.sd | with_reducible apply Bl.drewN | with_reducible apply Bl.drew))⟩
      · by_cases h0 : slot < 0
        all_goals
          go_enter Try.func36, Try.ntmps36
          go_wp2_with (first | (go_at_call 17; (with_reducible refine (hC _ (by repeat (first | exact Bl.refl _ | with_reducible apply Bl.alloc | with_reducible apply Bl.grow | with_reducible apply Bl.sd | with_reducible apply Bl.drewN | with_reducible apply Bl.drew))).mono ?_); rintro e w' ⟨rfl, hg⟩; obtain ⟨n, os, rfl⟩ := hg.out; clear hg))
          go_ret
          exact ⟨_, rfl, ⟨A, c, rfl, hc, HR.out.bl (by repeat (first | exact Bl.refl _ | with_reducible apply Bl.alloc | with_reducible apply Bl.grow | with_reducible apply Bl.sd | with_reducible apply Bl.drewN | with_reducible apply Bl.drew))⟩, (by repeat (first | exact Bl.refl _ | with_reducible apply Bl.alloc | with_reducible apply Bl.grow | with_reducible apply Bl.sd | with_reducible apply Bl.drewN | with_reducible apply Bl.drew))⟩
    · go_enter Try.func36, Try.ntmps36
      go_wp2_with (first | (go_at_call 17; (with_reducible refine (hC _ (by repeat (first | exact Bl.refl _ | with_reducible apply Bl.alloc | with_reducible apply Bl.grow | with_reducible apply Bl.sd | with_reducible apply Bl.drewN | with_reducible apply Bl.drew))).mono ?_); rintro e w' ⟨rfl, hg⟩; obtain ⟨n, os, rfl⟩ := hg.out; clear hg))
      all_goals
        go_ret
        exact ⟨_, rfl, ⟨A, c, rfl, hc, HR.out.bl (by repeat (first | exact Bl.refl _ | with_reducible apply Bl.alloc | with_reducible apply Bl.grow | with_reducible apply Bl.sd | with_reducible apply Bl.drewN | with_reducible apply Bl.drew))⟩, (by repeat (first | exact Bl.refl _ | with_reducible apply Bl.alloc | with_reducible apply Bl.grow | with_reducible apply Bl.sd | with_reducible apply Bl.drewN | with_reducible apply Bl.drew))⟩
end Go.Proofs.Ytlifpafnkagofaa.F
