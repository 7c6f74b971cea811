import Derived.Test.YtlifpafnkagofaaL1
import Derived.Test.YtlifpafnkagofaaF25
/- The law ParentLists, walked. -/
namespace Go.Proofs.Ytlifpafnkagofaa.L
open Go.RowKit Go.Sort Go.Proofs.Ytlifpafnkagofaa.B Go.Proofs.Ytlifpafnkagofaa.S Go.Proofs.Ytlifpafnkagofaa.F
set_option linter.unusedVariables false
set_option linter.unusedSimpArgs false
set_option maxHeartbeats 4000000 in
theorem lawLists (A : Option Addr) (c : Nat) (l : List Nb) (nd ep ra sl : Int) (ack : Bool) (w : World) (hr : Rd w A l) (hc : l.length ≤ c) :
    Calls Try.prog 7 #[.slice A l.length c, .int .i64 nd, .int .i64 ep, .int .i64 ra, .int .i64 sl, .bool ack] w fun e w' => e = .returned (.bool true) ∧ Bl w w' := by
  have hA := awake_
  have hF := fun W => qfew A c l W hr.1
  have hC : ∀ W, Bl w W → _ := fun W h => pcheck A c l W (hr.bl h) hc
  have hQ : ∀ W, Bl w W → _ := fun W h => qcheck A c l W (hr.bl h) hc
  have h1 : ∀ W, Bl w W → _ := fun W h => phear A c l nd ep ra sl W (hr.bl h) hc
  have h2 : ∀ W, Bl w W → _ := fun W h => xhear A c l nd ep ra sl W (hr.bl h) hc
  have h3 : ∀ W, Bl w W → _ := fun W h => pcount A c l nd ack W (hr.bl h) hc
  have h4 : ∀ W, Bl w W → _ := fun W h => xcount A c l nd ack W (hr.bl h) hc
  generalize hearS l nd ep ra sl = a at *
  generalize countS l nd ack = b at *
  generalize checkL l = q at *
  obtain ⟨a1, a2⟩ := a
  obtain ⟨b1, b2⟩ := b
  dsimp only at *
  clear hr
  cases hf : decide (l.length ≤ 40) with
  | false =>
    rw [hf] at hF
    clear hf
    go_enter Try.func7, Try.ntmps7
    go_wp2_with (first | (go_at_call 11; (with_reducible refine (hA _).mono ?_); rintro e w' ⟨rfl, hg⟩; obtain ⟨n, os, rfl⟩ := hg.out; clear hg) | (go_at_call 12; (with_reducible refine (hF _).mono ?_); rintro e w' ⟨rfl, rfl⟩))
    go_ret
    exact ⟨rfl, (by repeat (first | exact Bl.refl _ | with_reducible apply Bl.alloc | with_reducible apply Bl.grow | with_reducible apply Bl.sd | with_reducible apply Bl.drewN | with_reducible apply Bl.drew))⟩
  | true =>
    rw [hf] at hF
    clear hf
    have hs : sameL a1 a1 = true := by simp [sameL]
    have hs2 : sameL b1 b1 = true := by simp [sameL]
    go_enter Try.func7, Try.ntmps7
    go_upto_region 5 with (first | (go_at_call 11; (with_reducible refine (hA _).mono ?_); rintro e w' ⟨rfl, hg⟩; obtain ⟨n, os, rfl⟩ := hg.out; clear hg) | (go_at_call 12; (with_reducible refine (hF _).mono ?_); rintro e w' ⟨rfl, rfl⟩))
    go_wp2_with fail
    refine (h1 _ (by repeat (first | exact Bl.refl _ | with_reducible apply Bl.alloc | with_reducible apply Bl.grow | with_reducible apply Bl.sd | with_reducible apply Bl.drewN | with_reducible apply Bl.drew))).mono ?_
    rintro e W1 ⟨v, rfl, ho, hb⟩
    have B1 : Bl w W1 := Bl.trans (by repeat (first | exact Bl.refl _ | with_reducible apply Bl.alloc | with_reducible apply Bl.grow | with_reducible apply Bl.sd | with_reducible apply Bl.drewN | with_reducible apply Bl.drew)) hb
    obtain ⟨A1, c1, rfl, hc1, r1⟩ := ho.rd
    have R1 := Hd.mk r1
    clear ho hb r1 h1
    go_wp2_with fail
    refine (h2 _ B1).mono ?_
    rintro e W2 ⟨v, rfl, ho, hb⟩
    have B2 : Bl w W2 := Bl.trans B1 hb
    obtain ⟨A2, c2, rfl, hc2, r2⟩ := ho.rd
    have R2 := Hd.mk r2
    have S1 := Hd.mk (R1.out.bl hb)
    clear ho hb r2 h2 R1 B1
    go_wp2_with fail
    refine (h3 _ B2).mono ?_
    rintro e W3 ⟨v, rfl, ho, hb⟩
    have B3 : Bl w W3 := Bl.trans B2 hb
    obtain ⟨A3, c3, rfl, hc3, r3⟩ := ho.rd
    have R3 := Hd.mk r3
    have T1 := Hd.mk (S1.out.bl hb)
    have T2 := Hd.mk (R2.out.bl hb)
    clear ho hb r3 h3 S1 R2 B2
    go_wp2_with fail
    refine (h4 _ B3).mono ?_
    rintro e W4 ⟨v, rfl, ho, hb⟩
    have B4 : Bl w W4 := Bl.trans B3 hb
    obtain ⟨A4, c4, rfl, hc4, r4⟩ := ho.rd
    have k1 : ∀ X, Bl W4 X → _ := fun X h => xsame A1 A2 c1 c2 a1 a1 X ((T1.out.bl hb).bl h) ((T2.out.bl hb).bl h) hc1 hc2
    have k2 : ∀ X, Bl W4 X → _ := fun X h => xsame A3 A4 c3 c4 b1 b1 X ((R3.out.bl hb).bl h) (r4.bl h) hc3 hc4
    rw [hs] at k1
    rw [hs2] at k2
    have hC' := fun X (h : Bl W4 X) => hC X (B4.trans h)
    have hQ' := fun X (h : Bl W4 X) => hQ X (B4.trans h)
    have HB4 := Hd.mk B4
    clear ho hb r4 h4 T1 T2 R3 B3 B4 hs hs2 hC hQ
    go_wp2_with (first | (go_at_call 17; (with_reducible refine (hC' _ (by repeat (first | exact Bl.refl _ | with_reducible apply Bl.alloc | with_reducible apply Bl.grow | with_reducible apply Bl.sd | with_reducible apply Bl.drewN | with_reducible apply Bl.drew))).mono ?_); rintro e w' ⟨rfl, hg⟩; obtain ⟨n, os, rfl⟩ := hg.out; clear hg) | (go_at_call 28; (with_reducible refine (hQ' _ (by repeat (first | exact Bl.refl _ | with_reducible apply Bl.alloc | with_reducible apply Bl.grow | with_reducible apply Bl.sd | with_reducible apply Bl.drewN | with_reducible apply Bl.drew))).mono ?_); rintro e w' ⟨rfl, hg⟩; obtain ⟨n, os, rfl⟩ := hg.out; clear hg) | (go_at_call 29; (with_reducible refine (k1 _ (by repeat (first | exact Bl.refl _ | with_reducible apply Bl.alloc | with_reducible apply Bl.grow | with_reducible apply Bl.sd | with_reducible apply Bl.drewN | with_reducible apply Bl.drew))).mono ?_); rintro e w' ⟨rfl, hg⟩; obtain ⟨n, os, rfl⟩ := hg.out; clear hg) | (go_at_call 29; (with_reducible refine (k2 _ (by repeat (first | exact Bl.refl _ | with_reducible apply Bl.alloc | with_reducible apply Bl.grow | with_reducible apply Bl.sd | with_reducible apply Bl.drewN | with_reducible apply Bl.drew))).mono ?_); rintro e w' ⟨rfl, hg⟩; obtain ⟨n, os, rfl⟩ := hg.out; clear hg))
    go_ret
    exact ⟨ret_bool (by simp), HB4.out.trans (by repeat (first | exact Bl.refl _ | with_reducible apply Bl.alloc | with_reducible apply Bl.grow | with_reducible apply Bl.sd | with_reducible apply Bl.drewN | with_reducible apply Bl.drew))⟩
end Go.Proofs.Ytlifpafnkagofaa.L
