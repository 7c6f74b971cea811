import Derived.Test.YtlifpafnkagofaaL1
import Derived.Test.YtlifpafnkagofaaF27
import Derived.Test.YtlifpafnkagofaaS17
/- The law ParentHears, walked. -/
namespace Go.Proofs.Ytlifpafnkagofaa.L
open Go.RowKit Go.Sort Go.Proofs.Ytlifpafnkagofaa.B Go.Proofs.Ytlifpafnkagofaa.S Go.Proofs.Ytlifpafnkagofaa.F
set_option linter.unusedVariables false
set_option linter.unusedSimpArgs false
set_option maxHeartbeats 4000000 in
set_option maxRecDepth 100000 in
theorem lawHears (A : Option Addr) (c : Nat) (l : List Nb) (nd ep ra sl age : Int) (w : World) (hr : Rd w A l) (hc : l.length ≤ c) (ha0 : 0 ≤ age) (ha1 : age ≤ 65535) :
    Calls Try.prog 9 #[.slice A l.length c, .int .i64 nd, .int .i64 ep, .int .i64 ra, .int .i64 sl, .int .u16 age] w fun e w' => e = .returned (.bool true) ∧ Bl w w' := by
  have hA := awake_
  have hF := fun W => qfew A c l W hr.1
  have hC : ∀ W, Bl w W → _ := fun W h => pcheck A c l W (hr.bl h) hc
  have hH : ∀ W, Bl w W → _ := fun W h => phear A c l nd ep ra sl W (hr.bl h) hc
  by_cases hgo : decide (l.length ≤ 40) = true ∧ checkL l = 0 ∧ (hearS l nd ep ra sl).2 = 0
  case neg =>
    clear hr
    generalize decide (l.length ≤ 40) = q0 at *
    generalize checkL l = q1 at *
    generalize hearS l nd ep ra sl = a at *
    obtain ⟨a1, a2⟩ := a
    dsimp only at *
    have HG := Hd.mk hgo
    clear hgo
    cases q0 with
    | false =>
      go_enter Try.func9, Try.ntmps9
      go_wp2_with (first | (go_at_call 11; (with_reducible refine (hA _).mono ?_); rintro e w' ⟨rfl, hg⟩; obtain ⟨n, os, rfl⟩ := hg.out; clear hg) | (go_at_call 24; (with_reducible refine (hH _ (by repeat (first | exact Bl.refl _ | with_reducible apply Bl.alloc | with_reducible apply Bl.grow | with_reducible apply Bl.sd | with_reducible apply Bl.drewN | with_reducible apply Bl.drew))).mono ?_); rintro e W1 ⟨v, rfl, ho, hb⟩; have B1 : Bl w W1 := Bl.trans (by repeat (first | exact Bl.refl _ | with_reducible apply Bl.alloc | with_reducible apply Bl.grow | with_reducible apply Bl.sd | with_reducible apply Bl.drewN | with_reducible apply Bl.drew)) hb; obtain ⟨A1, c1, rfl, hc1, r1⟩ := ho.rd; have R1 := Hd.mk r1; clear ho hb r1) | (go_at_call 12; (with_reducible refine (hF _).mono ?_); rintro e w' ⟨rfl, rfl⟩) | (go_at_call 17; (with_reducible refine (hC _ (B1.trans (by repeat (first | with_reducible exact Bl.refl _ | with_reducible apply Bl.alloc | with_reducible apply Bl.grow | with_reducible apply Bl.sd | with_reducible apply Bl.drewN | with_reducible apply Bl.drew)))).mono ?_); rintro e w' ⟨rfl, hg⟩; obtain ⟨n, os, rfl⟩ := hg.out; clear hg))
      all_goals
        go_ret
        exact ⟨rfl, B1.trans (by repeat (first | with_reducible exact Bl.refl _ | with_reducible apply Bl.alloc | with_reducible apply Bl.grow | with_reducible apply Bl.sd | with_reducible apply Bl.drewN | with_reducible apply Bl.drew))⟩
    | true =>
      by_cases h1 : q1 = 0
      · subst h1
        have h2 : (a2 != 0) = true := by
          rw [bne_iff_ne]
          exact fun e => HG.out ⟨rfl, rfl, e⟩
        clear HG
        go_enter Try.func9, Try.ntmps9
        go_wp2_with (first | (go_at_call 11; (with_reducible refine (hA _).mono ?_); rintro e w' ⟨rfl, hg⟩; obtain ⟨n, os, rfl⟩ := hg.out; clear hg) | (go_at_call 24; (with_reducible refine (hH _ (by repeat (first | exact Bl.refl _ | with_reducible apply Bl.alloc | with_reducible apply Bl.grow | with_reducible apply Bl.sd | with_reducible apply Bl.drewN | with_reducible apply Bl.drew))).mono ?_); rintro e W1 ⟨v, rfl, ho, hb⟩; have B1 : Bl w W1 := Bl.trans (by repeat (first | exact Bl.refl _ | with_reducible apply Bl.alloc | with_reducible apply Bl.grow | with_reducible apply Bl.sd | with_reducible apply Bl.drewN | with_reducible apply Bl.drew)) hb; obtain ⟨A1, c1, rfl, hc1, r1⟩ := ho.rd; have R1 := Hd.mk r1; clear ho hb r1) | (go_at_call 12; (with_reducible refine (hF _).mono ?_); rintro e w' ⟨rfl, rfl⟩) | (go_at_call 17; (with_reducible refine (hC _ (B1.trans (by repeat (first | with_reducible exact Bl.refl _ | with_reducible apply Bl.alloc | with_reducible apply Bl.grow | with_reducible apply Bl.sd | with_reducible apply Bl.drewN | with_reducible apply Bl.drew)))).mono ?_); rintro e w' ⟨rfl, hg⟩; obtain ⟨n, os, rfl⟩ := hg.out; clear hg))
        all_goals
          go_ret
          exact ⟨rfl, B1.trans (by repeat (first | with_reducible exact Bl.refl _ | with_reducible apply Bl.alloc | with_reducible apply Bl.grow | with_reducible apply Bl.sd | with_reducible apply Bl.drewN | with_reducible apply Bl.drew))⟩
      · have h2 : (q1 != 0) = true := by simp [h1]
        clear HG
        go_enter Try.func9, Try.ntmps9
        go_wp2_with (first | (go_at_call 11; (with_reducible refine (hA _).mono ?_); rintro e w' ⟨rfl, hg⟩; obtain ⟨n, os, rfl⟩ := hg.out; clear hg) | (go_at_call 24; (with_reducible refine (hH _ (by repeat (first | exact Bl.refl _ | with_reducible apply Bl.alloc | with_reducible apply Bl.grow | with_reducible apply Bl.sd | with_reducible apply Bl.drewN | with_reducible apply Bl.drew))).mono ?_); rintro e W1 ⟨v, rfl, ho, hb⟩; have B1 : Bl w W1 := Bl.trans (by repeat (first | exact Bl.refl _ | with_reducible apply Bl.alloc | with_reducible apply Bl.grow | with_reducible apply Bl.sd | with_reducible apply Bl.drewN | with_reducible apply Bl.drew)) hb; obtain ⟨A1, c1, rfl, hc1, r1⟩ := ho.rd; have R1 := Hd.mk r1; clear ho hb r1) | (go_at_call 12; (with_reducible refine (hF _).mono ?_); rintro e w' ⟨rfl, rfl⟩) | (go_at_call 17; (with_reducible refine (hC _ (B1.trans (by repeat (first | with_reducible exact Bl.refl _ | with_reducible apply Bl.alloc | with_reducible apply Bl.grow | with_reducible apply Bl.sd | with_reducible apply Bl.drewN | with_reducible apply Bl.drew)))).mono ?_); rintro e w' ⟨rfl, hg⟩; obtain ⟨n, os, rfl⟩ := hg.out; clear hg))
        all_goals
          go_ret
          exact ⟨rfl, B1.trans (by repeat (first | with_reducible exact Bl.refl _ | with_reducible apply Bl.alloc | with_reducible apply Bl.grow | with_reducible apply Bl.sd | with_reducible apply Bl.drewN | with_reducible apply Bl.drew))⟩
  case pos =>
    have hmx := mixed
    obtain ⟨hf, h1, h2⟩ := hgo
    obtain ⟨m, x, em, ex, hm0, hml, hl32, hsl, hat, hha, hin, hfo⟩ := hears_main h1 h2
    rw [hf] at hF
    rw [h1] at hC
    rw [em] at hH
    have hwr : IntKind.i64.wrap age = age := IntWalk.i64_in _ (by omega)
    have hwr2 : IntKind.i64.wrap (sl + age) = sl + age := IntWalk.i64_in _ (by omega)
    have hwr3 : IntKind.i64.wrap (age + 1) = age + 1 := IntWalk.i64_in _ (by omega)
    have HR := Hd.mk hr
    have HX := Hd.mk ex
    have HM := Hd.mk (And.intro hm0 (And.intro hml (And.intro hl32 hsl)))
    have HAt := Hd.mk (And.intro hat hha)
    have HIn := Hd.mk hin
    have HFo := Hd.mk hfo
    clear hr h1 hf h2 em ex hm0 hml hl32 hsl hat hha hin hfo
    go_enter Try.func9, Try.ntmps9
    go_upto_region 3 with (first | (go_at_call 11; (with_reducible refine (hA _).mono ?_); rintro e w' ⟨rfl, hg⟩; obtain ⟨n, os, rfl⟩ := hg.out; clear hg))
    generalize hW : Sort.grow _ _ = W
    have HWe := Hd.mk hW
    clear hW
    have f0 : W.cell? ⟨w.heap.size, 0, none⟩ = some (.int .i64 nd) := by rw [← HWe.out]; go_simp
    have hB5 : Bl w W := by rw [← HWe.out]; exact (by repeat (first | exact Bl.refl _ | with_reducible apply Bl.alloc | with_reducible apply Bl.grow | with_reducible apply Bl.sd | with_reducible apply Bl.drewN | with_reducible apply Bl.drew))
    have z0 := World.block_lt_of_cell? W _ f0
    have HB5 := Hd.mk hB5
    have hH' := fun X (h : Bl W X) => hH X (hB5.trans h)
    have hC' := fun X (h : Bl W X) => hC X (hB5.trans h)
    clear HWe hB5 hA hC hH
    go_upto_region 7 with (first | (go_at_call 24; (with_reducible refine (hH' _ (by repeat (first | with_reducible exact Bl.refl _ | with_reducible apply Bl.alloc | with_reducible apply Bl.grow | with_reducible apply Bl.sd | with_reducible apply Bl.drewN | with_reducible apply Bl.drew))).mono ?_); rintro e W1 ⟨v, rfl, ho, hb⟩; have B1 : Bl W W1 := Bl.trans (by repeat (first | with_reducible exact Bl.refl _ | with_reducible apply Bl.alloc | with_reducible apply Bl.grow | with_reducible apply Bl.sd | with_reducible apply Bl.drewN | with_reducible apply Bl.drew)) hb; obtain ⟨A1, c1, rfl, hc1, r1⟩ := ho.rd; have R1 := Hd.mk r1; clear ho hb r1) | (go_at_call 12; (with_reducible refine (hF _).mono ?_); rintro e w' ⟨rfl, rfl⟩) | (go_at_call 17; (with_reducible refine (hC' _ (B1.trans (by repeat (first | with_reducible exact Bl.refl _ | with_reducible apply Bl.alloc | with_reducible apply Bl.grow | with_reducible apply Bl.sd | with_reducible apply Bl.drewN | with_reducible apply Bl.drew)))).mono ?_); rintro e w' ⟨rfl, hg⟩; obtain ⟨n, os, rfl⟩ := hg.out; clear hg))
    generalize hW2 : Sort.grow _ _ = W2
    have hB2 : Bl W1 W2 := by rw [← hW2]; exact (by repeat (first | with_reducible exact Bl.refl _ | with_reducible apply Bl.alloc | with_reducible apply Bl.grow | with_reducible apply Bl.sd | with_reducible apply Bl.drewN | with_reducible apply Bl.drew))
    have n2 : W2.cell? ⟨w.heap.size, 0, none⟩ = some (.int .i64 nd) := (Below.cell (B1.trans hB2) (p := ⟨w.heap.size, 0, none⟩) z0).trans f0
    have z2 := World.block_lt_of_cell? W2 _ n2
    have r2 := R1.out.bl hB2
    have l2 := HR.out.bl (HB5.out.trans (B1.trans hB2))
    have hAl : ∀ X, Bl W2 X → _ := fun X h => pat A c l nd w.heap.size X (l2.bl h) hc ((Below.cell h (p := ⟨w.heap.size, 0, none⟩) z2).trans n2)
    have hAm : ∀ X, Bl W2 X → _ := fun X h => pat A1 c1 m nd w.heap.size X (r2.bl h) hc1 ((Below.cell h (p := ⟨w.heap.size, 0, none⟩) z2).trans n2)
    have hHm : ∀ X, Bl W2 X → _ := fun X h => phas A1 c1 m nd w.heap.size X (r2.bl h) hc1 ((Below.cell h (p := ⟨w.heap.size, 0, none⟩) z2).trans n2)
    have hCm : ∀ X, Bl W2 X → _ := fun X h => pcheck A1 c1 m X (r2.bl h) hc1
    have hx := HX.out
    have hnd := at_nd l nd
    rw [HAt.out.1] at hAm
    rw [HAt.out.2] at hHm
    rw [HM.out.1] at hCm
    generalize atS l nd = y at *
    obtain ⟨y0, y1, y2, y3, ⟨y4, y5⟩⟩ := y
    dsimp only at hnd hx
    subst hnd
    subst hx
    simp only [nbV] at hAl hAm
    have R2 := Hd.mk r2
    have L2 := Hd.mk l2
    have B2 := Hd.mk (HB5.out.trans (B1.trans hB2))
    clear hW2 hB2 r2 l2 HX HAt f0 z0 B1 R1 hH' hC' hF HB5
    go_upto_region 9 with (first | (go_at_call 31; (with_reducible refine (hAl _ (by repeat (first | with_reducible exact Bl.refl _ | with_reducible apply Bl.alloc | with_reducible apply Bl.grow | with_reducible apply Bl.sd | with_reducible apply Bl.drewN | with_reducible apply Bl.drew))).mono ?_); rintro e w' ⟨rfl, hg⟩; obtain ⟨n, os, rfl⟩ := hg.out; clear hg))
    generalize hW3 : World.alloc _ _ = W3
    have HWe := Hd.mk hW3
    clear hW3
    have c0 : W3.cell? ⟨W2.heap.size + os.size, 0, none⟩ = some (.int .i64 y0) := by rw [← HWe.out]; go_simp
    have c1' : W3.cell? ⟨W2.heap.size + os.size, 1, none⟩ = some (.int .i64 ep) := by rw [← HWe.out]; go_simp
    have c2 : W3.cell? ⟨W2.heap.size + os.size, 2, none⟩ = some (.int .i64 ra) := by rw [← HWe.out]; go_simp
    have c3 : W3.cell? ⟨W2.heap.size + os.size, 3, none⟩ = some (.int .i64 sl) := by rw [← HWe.out]; go_simp
    have c4 : W3.cell? ⟨W2.heap.size + os.size, 4, none⟩ = some (.int .i64 y4) := by rw [← HWe.out]; go_simp
    have c5 : W3.cell? ⟨W2.heap.size + os.size, 5, none⟩ = some (.int .i64 y5) := by rw [← HWe.out]; go_simp
    have B3 : Bl W2 W3 := by rw [← HWe.out]; exact (by repeat (first | with_reducible exact Bl.refl _ | with_reducible apply Bl.alloc | with_reducible apply Bl.grow | with_reducible apply Bl.sd | with_reducible apply Bl.drewN | with_reducible apply Bl.drew))
    have zd := World.block_lt_of_cell? W3 _ c0
    dsimp only at zd
    have heq : ∀ X : World, _ := fun X => eqv y0 y0 ep ep ra ra sl sl y4 y4 y5 y5 X
    rw [(nbEq_iff _ _).2 rfl] at heq
    have hg41 := guard41
    clear HWe hAl
    generalize W2.heap.size + os.size = d at *
    go_region_held3 (fun w' => w'.cell? ⟨d, 0, none⟩ = some (.int .i64 y0) ∧ w'.cell? ⟨d, 1, none⟩ = some (.int .i64 ep) ∧ w'.cell? ⟨d, 2, none⟩ = some (.int .i64 ra) ∧ w'.cell? ⟨d, 3, none⟩ = some (.int .i64 sl) ∧ w'.cell? ⟨d, 4, none⟩ = some (.int .i64 y4) ∧ w'.cell? ⟨d, 5, none⟩ = some (.int .i64 y5)) ((go_simp; done)) (first | (go_at_call 17; (with_reducible refine (hCm _ (B3.trans (by repeat (first | with_reducible exact Bl.refl _ | with_reducible apply Bl.alloc | with_reducible apply Bl.grow | with_reducible apply Bl.sd | with_reducible apply Bl.drewN | with_reducible apply Bl.drew)))).mono ?_); rintro e w' ⟨rfl, hg⟩; obtain ⟨n, os, rfl⟩ := hg.out; clear hg) | (go_at_call 31; (with_reducible refine (hAm _ (B3.trans (by repeat (first | with_reducible exact Bl.refl _ | with_reducible apply Bl.alloc | with_reducible apply Bl.grow | with_reducible apply Bl.sd | with_reducible apply Bl.drewN | with_reducible apply Bl.drew)))).mono ?_); rintro e w' ⟨rfl, hg⟩; obtain ⟨n, os, rfl⟩ := hg.out; clear hg) | (go_at_call 33; (with_reducible refine (hHm _ (B3.trans (by repeat (first | with_reducible exact Bl.refl _ | with_reducible apply Bl.alloc | with_reducible apply Bl.grow | with_reducible apply Bl.sd | with_reducible apply Bl.drewN | with_reducible apply Bl.drew)))).mono ?_); rintro e w' ⟨rfl, hg⟩; obtain ⟨n, os, rfl⟩ := hg.out; clear hg))
    generalize hW4 : Sort.grow _ _ = W4
    have hB4 : Bl W3 W4 := by rw [← hW4]; exact (by repeat (first | with_reducible exact Bl.refl _ | with_reducible apply Bl.alloc | with_reducible apply Bl.grow | with_reducible apply Bl.sd | with_reducible apply Bl.drewN | with_reducible apply Bl.drew))
    have cel := fun (q : Nat) => Below.cell hB4 (p := ⟨d, q, none⟩) zd
    have k0 := (cel 0).trans c0
    have k1 := (cel 1).trans c1'
    have k2 := (cel 2).trans c2
    have k3 := (cel 3).trans c3
    have k4 := (cel 4).trans c4
    have k5 := (cel 5).trans c5
    have zd4 := World.block_lt_of_cell? W4 _ k0
    have n4 : W4.cell? ⟨w.heap.size, 0, none⟩ = some (.int .i64 y0) := (Below.cell (B3.trans hB4) (p := ⟨w.heap.size, 0, none⟩) z2).trans n2
    have zn4 := World.block_lt_of_cell? W4 _ n4
    dsimp only at zd4 zn4
    have L4 := Hd.mk (L2.out.bl (B3.trans hB4))
    have R4 := Hd.mk (R2.out.bl (B3.trans hB4))
    have B4 := Hd.mk (B2.out.trans (B3.trans hB4))
    have hl4 := L2.out.1
    clear hW4 hB4 cel c0 c1' c2 c3 c4 c5 zd n2 z2 B3 L2 R2 B2 hAm hHm hCm heq
    go_upto_region 12 with fail
    go_loopg [18, 72] l.length (fun gg s18 s72 wr => ∃ (k : Nat), k ≤ l.length ∧ l.length - k ≤ gg ∧ s72 = .int .i64 k ∧ Hd (Bl W4 wr))
    case atStart => exact ⟨0, Nat.zero_le _, by omega, rfl, ⟨Bl.refl _⟩⟩
    case round =>
      obtain ⟨k, hk, hg, rfl, HB1⟩ := hrel
      by_cases hlt : k < l.length
      · obtain ⟨b, off, rfl, hb, hcell⟩ := L4.out.2 (by omega)
        have hbl := HB1.out
        obtain ⟨e0, e1, e2, e3, e4, e5⟩ := hcell k hlt
        have o := fun (q : Nat) => Below.cell hbl (p := ⟨b, q, none⟩) hb
        rw [← o] at e0 e1 e2 e3 e4 e5
        have nr : wr.cell? ⟨w.heap.size, 0, none⟩ = some (.int .i64 y0) := (Below.cell hbl (p := ⟨w.heap.size, 0, none⟩) zn4).trans n4
        have zb : b < wr.heap.size := World.block_lt_of_cell? wr _ e0
        have zr : w.heap.size < wr.heap.size := World.block_lt_of_cell? wr _ nr
        have hltz : (k : Int) < (l.length : Int) := by omega
        have hkz : (0 : Int) ≤ (k : Int) := by omega
        have hin := HIn.out k hlt
        have hct : ∀ X, Bl wr X → _ := fun X h => pcontains A1 c1 m (nth l k) X (R4.out.bl (hbl.trans h)) hc1
        clear o hbl hcell
        generalize nth l k = x at *
        obtain ⟨x0, x1, x2, x3, ⟨x4, x5⟩⟩ := x
        dsimp only [nbV] at *
        by_cases hx : x0 = y0
        · have hxb : (x0 != y0) = false := by simp [hx]
          clear hx hin hct
          go_wp2
          go_roundg (l.length - (k + 1))
          case measure => omega
          case rel => exact ⟨k + 1, by omega, by omega, by go_num, ⟨HB1.out.trans (by repeat (first | with_reducible exact Bl.refl _ | with_reducible apply Bl.alloc | with_reducible apply Bl.grow | with_reducible apply Bl.sd | with_reducible apply Bl.drewN | with_reducible apply Bl.drew))⟩⟩
        · have hxb : (x0 != y0) = true := by simp [hx]
          rw [hin hx] at hct
          clear hx hin
          go_wp2_with (first | (go_at_call 35; (with_reducible refine (hct _ (by repeat (first | with_reducible exact Bl.refl _ | with_reducible apply Bl.alloc | with_reducible apply Bl.grow | with_reducible apply Bl.sd | with_reducible apply Bl.drewN | with_reducible apply Bl.drew))).mono ?_); rintro e w' ⟨rfl, hg⟩; obtain ⟨n, os, rfl⟩ := hg.out; clear hg))
          go_roundg (l.length - (k + 1))
          case measure => omega
          case rel => exact ⟨k + 1, by omega, by omega, by go_num, ⟨HB1.out.trans (by repeat (first | with_reducible exact Bl.refl _ | with_reducible apply Bl.alloc | with_reducible apply Bl.grow | with_reducible apply Bl.sd | with_reducible apply Bl.drewN | with_reducible apply Bl.drew))⟩⟩
      · obtain rfl : k = l.length := by omega
        have hltz : ¬ ((l.length : Int) < (l.length : Int)) := by omega
        have hbl := HB1.out
        have o := fun (q : Nat) => Below.cell hbl (p := ⟨d, q, none⟩) zd4
        have j0 := (o 0).trans k0
        have j1 := (o 1).trans k1
        have j2 := (o 2).trans k2
        have j3 := (o 3).trans k3
        have j4 := (o 4).trans k4
        have j5 := (o 5).trans k5
        have zj := World.block_lt_of_cell? wr _ j0
        dsimp only at zj
        obtain ⟨_, hml, hl32, hs0, hs1⟩ := HM.out
        have hf1 : ∀ X, Bl wr X → _ := fun X h => pforget A1 c1 m (sl + age) age X (R4.out.bl (hbl.trans h)) hc1 (by omega)
        have hf2 : ∀ X, Bl wr X → _ := fun X h => pforget A1 c1 m (sl + age) (age + 1) X (R4.out.bl (hbl.trans h)) hc1 (by omega)
        obtain ⟨i1, i2⟩ := HFo.out age ha0
        have hmz : (m.length : Int) ≤ (l.length : Int) + 1 := by omega
        have hwl : IntKind.i64.wrap ((l.length : Int) + 1) = (l.length : Int) + 1 := IntWalk.i64_in _ (by omega)
        generalize forgetS m (sl + age) age = late at *
        generalize forgetS m (sl + age) (age + 1) = soon at *
        have HLe := Hd.mk (And.intro i1 i2)
        have HEnd := Hd.mk (B4.out.trans HB1.out)
        clear o hbl k0 k1 k2 k3 k4 k5 n4 zn4 zd4 HM HFo HIn i1 i2 hml hl32 hs0 hs1 L4 R4 hl4 HB1 B4 HR ha0 ha1
        go_upto_region 17 with fail
        go_wp2_with (go_at_call 36; (with_reducible refine (hf1 _ (by repeat (first | with_reducible exact Bl.refl _ | with_reducible apply Bl.alloc | with_reducible apply Bl.grow | with_reducible apply Bl.sd | with_reducible apply Bl.drewN | with_reducible apply Bl.drew))).mono ?_); rintro e W5 ⟨v, rfl, ⟨A5, c5, rfl, hc5, r5⟩, hb5⟩; have HW5 := Hd.mk hb5; have R5 := Hd.mk r5; clear hf1 hb5 r5)
        refine (hf2 _ HW5.out).mono ?_
        rintro e W6 ⟨v, rfl, ⟨A6, c6, rfl, hc6, r6⟩, hb6⟩
        have hb := HW5.out.trans hb6
        have o := fun (q : Nat) => Below.cell hb (p := ⟨d, q, none⟩) zj
        have m0 := (o 0).trans j0
        have m1 := (o 1).trans j1
        have m2 := (o 2).trans j2
        have m3 := (o 3).trans j3
        have m4 := (o 4).trans j4
        have m5 := (o 5).trans j5
        have zm := World.block_lt_of_cell? W6 _ m0
        dsimp only at zm
        have hq1 : ∀ X, Bl W6 X → _ := fun X h => pcontains A5 c5 late ⟨y0, ep, ra, sl, ⟨y4, y5⟩⟩ X (R5.out.bl (hb6.trans h)) hc5
        have hq2 : ∀ X, Bl W6 X → _ := fun X h => pcontains A6 c6 soon ⟨y0, ep, ra, sl, ⟨y4, y5⟩⟩ X (r6.bl h) hc6
        rw [HLe.out.1] at hq1
        rw [HLe.out.2] at hq2
        simp only [nbV] at hq1 hq2
        have HE := Hd.mk (HEnd.out.trans hb)
        clear o hb hb6 r6 R5 HW5 HLe HEnd hf2 j0 j1 j2 j3 j4 j5
        go_wp2_with (first | (go_at_call 35; (with_reducible refine (hq1 _ (by repeat (first | with_reducible exact Bl.refl _ | with_reducible apply Bl.alloc | with_reducible apply Bl.grow | with_reducible apply Bl.sd | with_reducible apply Bl.drewN | with_reducible apply Bl.drew))).mono ?_); rintro e w' ⟨rfl, hg⟩; obtain ⟨n, os, rfl⟩ := hg.out; clear hg) | (go_at_call 35; (with_reducible refine (hq2 _ (by repeat (first | with_reducible exact Bl.refl _ | with_reducible apply Bl.alloc | with_reducible apply Bl.grow | with_reducible apply Bl.sd | with_reducible apply Bl.drewN | with_reducible apply Bl.drew))).mono ?_); rintro e w' ⟨rfl, hg⟩; obtain ⟨n, os, rfl⟩ := hg.out; clear hg))
        go_ret
        exact ⟨ret_bool (by simp <;> omega), HE.out.trans (by repeat (first | with_reducible exact Bl.refl _ | with_reducible apply Bl.alloc | with_reducible apply Bl.grow | with_reducible apply Bl.sd | with_reducible apply Bl.drewN | with_reducible apply Bl.drew))⟩
end Go.Proofs.Ytlifpafnkagofaa.L
