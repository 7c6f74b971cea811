import Derived.Test.YtlifpafnkagofaaL1
import Derived.Test.YtlifpafnkagofaaF28
/- The law ParentCosts, walked. -/
namespace Go.Proofs.Ytlifpafnkagofaa.L
open Go.RowKit Go.Sort Go.Proofs.Ytlifpafnkagofaa.B Go.Proofs.Ytlifpafnkagofaa.S Go.Proofs.Ytlifpafnkagofaa.F
set_option linter.unusedVariables false
set_option linter.unusedSimpArgs false
set_option maxHeartbeats 4000000 in
theorem lawCosts (c0 c1 : Int) (A : Option Addr) (c : Nat) (l : List Nb) (slot age : Int) (w : World) (hr : Rd w A l) (hc : l.length ≤ c) (hs : slot ≤ 9223372036854775807) :
    Calls Try.prog 10 #[.agg #[.int .i64 c0, .int .i64 c1], .slice A l.length c, .int .i64 slot, .int .i64 age] w fun e w' => e = .returned (.bool true) ∧ Bl w w' := by
  have hA := awake_
  have hF := fun W => qfew A c l W hr.1
  by_cases hgo : decide (l.length ≤ 40) = true ∧ c0 ≤ 2147483648
  · obtain ⟨hf, h0⟩ := hgo
    rw [hf] at hF
    have h1 : ∀ W, Bl w W → _ := fun W h => pforget A c l slot age W (hr.bl h) hc hs
    have h2 : ∀ W, Bl w W → _ := fun W h => xforget A c l slot age W (hr.bl h) hc hs
    have hco := pcost c0 c1 h0
    have hcx := xcost c0 c1 h0
    generalize costS ⟨c0, c1⟩ = co at *
    generalize forgetS l slot age = a at *
    have hsame : sameL a a = true := by simp [sameL]
    clear hr hf
    go_enter Try.func10, Try.ntmps10
    go_upto_region 5 with (first | (go_at_call 11; (with_reducible refine (hA _).mono ?_); rintro e w' ⟨rfl, hg⟩; obtain ⟨n, os, rfl⟩ := hg.out; clear hg) | (go_at_call 12; (with_reducible refine (hF _).mono ?_); rintro e w' ⟨rfl, rfl⟩))
    generalize hW : Sort.grow _ _ = W
    have HWe := Hd.mk hW
    clear hW
    have f0 : W.cell? ⟨w.heap.size, 0, none⟩ = some (.int .i64 c0) := by rw [← HWe.out]; go_simp
    have f1 : W.cell? ⟨w.heap.size, 1, none⟩ = some (.int .i64 c1) := by rw [← HWe.out]; go_simp
    have hB5 : Bl w W := by rw [← HWe.out]; exact (by repeat (first | exact Bl.refl _ | with_reducible apply Bl.alloc | with_reducible apply Bl.grow | with_reducible apply Bl.sd | with_reducible apply Bl.drewN | with_reducible apply Bl.drew))
    have z0 := World.block_lt_of_cell? W _ f0
    have HB5 := Hd.mk hB5
    have k1 := fun X (h : Bl W X) => h1 X (hB5.trans h)
    have k2 := fun X (h : Bl W X) => h2 X (hB5.trans h)
    clear HWe hB5 h1 h2 hA hF
    have hm := mixed
    have hcc : ((co : Int) == co) = true := by simp
    go_region_held3 (fun w' => w'.cell? ⟨w.heap.size, 0, none⟩ = some (.int .i64 c0) ∧ w'.cell? ⟨w.heap.size, 1, none⟩ = some (.int .i64 c1)) ((go_simp; done)) (first | (go_at_call 20; (with_reducible refine (hco _).mono ?_); rintro e w' ⟨rfl, hg⟩; obtain ⟨n, os, rfl⟩ := hg.out; clear hg) | (go_at_call 37; (with_reducible refine (hcx _).mono ?_); rintro e w' ⟨rfl, hg⟩; obtain ⟨n, os, rfl⟩ := hg.out; clear hg) | (go_at_call 36; (with_reducible refine (k1 _ (by repeat (first | exact Bl.refl _ | with_reducible apply Bl.alloc | with_reducible apply Bl.grow | with_reducible apply Bl.sd | with_reducible apply Bl.drewN | with_reducible apply Bl.drew))).mono ?_); rintro e W1 ⟨v, rfl, ⟨A1, d1, rfl, hd1, r1⟩, hb⟩; have B1 : Bl W W1 := Bl.trans (by repeat (first | exact Bl.refl _ | with_reducible apply Bl.alloc | with_reducible apply Bl.grow | with_reducible apply Bl.sd | with_reducible apply Bl.drewN | with_reducible apply Bl.drew)) hb; have q0 := (Below.cell B1 (p := ⟨w.heap.size, 0, none⟩) z0).trans f0; have q1 := (Below.cell B1 (p := ⟨w.heap.size, 1, none⟩) z0).trans f1; have R1 := Hd.mk r1; clear hb r1) | (go_at_call 38; (with_reducible refine (k2 _ B1).mono ?_); rintro e W2 ⟨v, rfl, ⟨A2, d2, rfl, hd2, r2⟩, hb⟩; have B2 : Bl W W2 := Bl.trans B1 hb; have p0 := (Below.cell B2 (p := ⟨w.heap.size, 0, none⟩) z0).trans f0; have p1 := (Below.cell B2 (p := ⟨w.heap.size, 1, none⟩) z0).trans f1; have hsm := xsame A1 A2 d1 d2 a a W2 (R1.out.bl hb) r2 hd1 hd2; rw [hsame] at hsm; have z2 := Nat.lt_of_lt_of_le z0 B2.size; clear hb r2) | (go_at_call 29; (with_reducible refine hsm.mono ?_); rintro e w' ⟨rfl, hg⟩; obtain ⟨n, os, rfl⟩ := hg.out; clear hg))
    all_goals (go_wp2; go_ret; exact ⟨ret_bool (by simp), HB5.out.trans (Bl.trans B2 (by repeat (first | exact Bl.refl _ | with_reducible apply Bl.alloc | with_reducible apply Bl.grow | with_reducible apply Bl.sd | with_reducible apply Bl.drewN | with_reducible apply Bl.drew)))⟩)
  · cases hf : decide (l.length ≤ 40) with
    | false =>
      rw [hf] at hF
      clear hf hr
      go_enter Try.func10, Try.ntmps10
      go_wp2_with (first | (go_at_call 11; (with_reducible refine (hA _).mono ?_); rintro e w' ⟨rfl, hg⟩; obtain ⟨n, os, rfl⟩ := hg.out; clear hg) | (go_at_call 12; (with_reducible refine (hF _).mono ?_); rintro e w' ⟨rfl, rfl⟩))
      all_goals (go_ret; exact ⟨rfl, (by repeat (first | exact Bl.refl _ | with_reducible apply Bl.alloc | with_reducible apply Bl.grow | with_reducible apply Bl.sd | with_reducible apply Bl.drewN | with_reducible apply Bl.drew))⟩)
    | true =>
      have h0 : ¬ c0 ≤ 2147483648 := fun h => hgo ⟨hf, h⟩
      rw [hf] at hF
      clear hf hr hgo
      go_enter Try.func10, Try.ntmps10
      go_wp2_with (first | (go_at_call 11; (with_reducible refine (hA _).mono ?_); rintro e w' ⟨rfl, hg⟩; obtain ⟨n, os, rfl⟩ := hg.out; clear hg) | (go_at_call 12; (with_reducible refine (hF _).mono ?_); rintro e w' ⟨rfl, rfl⟩))
      all_goals (go_ret; exact ⟨rfl, (by repeat (first | exact Bl.refl _ | with_reducible apply Bl.alloc | with_reducible apply Bl.grow | with_reducible apply Bl.sd | with_reducible apply Bl.drewN | with_reducible apply Bl.drew))⟩)
end Go.Proofs.Ytlifpafnkagofaa.L
