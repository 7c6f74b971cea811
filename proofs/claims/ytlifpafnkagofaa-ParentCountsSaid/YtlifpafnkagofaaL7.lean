import Derived.Test.YtlifpafnkagofaaL1
import Derived.Test.YtlifpafnkagofaaF21
import Derived.Test.YtlifpafnkagofaaS16
import Derived.Test.YtlifpafnkagofaaR1
/- The law ParentCounts, walked. -/
namespace Go.Proofs.Ytlifpafnkagofaa.L
open Go.RowKit Go.Sort Go.Proofs.Ytlifpafnkagofaa.B Go.Proofs.Ytlifpafnkagofaa.S Go.Proofs.Ytlifpafnkagofaa.F
set_option linter.unusedVariables false
set_option linter.unusedSimpArgs false
set_option maxHeartbeats 4000000 in
set_option maxRecDepth 100000 in
theorem lawCounts (A : Option Addr) (c : Nat) (l : List Nb) (nd : Int) (B : Option Addr) (cb : Nat) (bs : List Bool) (w : World) (hr : Rd w A l) (hc : l.length ≤ c) (hrb : RdB w B bs) (hcb : bs.length ≤ cb) :
    Calls Try.prog 8 #[.slice A l.length c, .int .i64 nd, .slice B bs.length cb] w fun e w' => e = .returned (.bool true) ∧ Bl w w' := by
  have hA := awake_
  have hF := fun W => qfew A c l W hr.1
  have hC : ∀ W, Bl w W → _ := fun W h => pcheck A c l W (hr.bl h) hc
  by_cases hgo : decide (l.length ≤ 40) = true ∧ checkL l = 0 ∧ bs.length ≤ 60
  case neg =>
    clear hr hrb
    generalize decide (l.length ≤ 40) = q0 at *
    generalize checkL l = q1 at *
    generalize bs.length = n at *
    cases q0 with
    | false =>
      clear hgo
      go_enter Try.func8, Try.ntmps8
      go_wp2_with (first | (go_at_call 11; (with_reducible refine (hA _).mono ?_); rintro e w' ⟨rfl, hg⟩; obtain ⟨n, os, rfl⟩ := hg.out; clear hg) | (go_at_call 12; (with_reducible refine (hF _).mono ?_); rintro e w' ⟨rfl, rfl⟩) | (go_at_call 17; (with_reducible refine (hC _ (by repeat (first | exact Bl.refl _ | with_reducible apply Bl.alloc | with_reducible apply Bl.grow | with_reducible apply Bl.sd | with_reducible apply Bl.drewN | with_reducible apply Bl.drew))).mono ?_); rintro e w' ⟨rfl, hg⟩; obtain ⟨n, os, rfl⟩ := hg.out; clear hg))
      all_goals
        go_ret
        exact ⟨rfl, (by repeat (first | exact Bl.refl _ | with_reducible apply Bl.alloc | with_reducible apply Bl.grow | with_reducible apply Bl.sd | with_reducible apply Bl.drewN | with_reducible apply Bl.drew))⟩
    | true =>
      by_cases h2 : (60 : Int) < (n : Int)
      · clear hgo
        go_enter Try.func8, Try.ntmps8
        go_wp2_with (first | (go_at_call 11; (with_reducible refine (hA _).mono ?_); rintro e w' ⟨rfl, hg⟩; obtain ⟨n, os, rfl⟩ := hg.out; clear hg) | (go_at_call 12; (with_reducible refine (hF _).mono ?_); rintro e w' ⟨rfl, rfl⟩) | (go_at_call 17; (with_reducible refine (hC _ (by repeat (first | exact Bl.refl _ | with_reducible apply Bl.alloc | with_reducible apply Bl.grow | with_reducible apply Bl.sd | with_reducible apply Bl.drewN | with_reducible apply Bl.drew))).mono ?_); rintro e w' ⟨rfl, hg⟩; obtain ⟨n, os, rfl⟩ := hg.out; clear hg))
        all_goals
          go_ret
          exact ⟨rfl, (by repeat (first | exact Bl.refl _ | with_reducible apply Bl.alloc | with_reducible apply Bl.grow | with_reducible apply Bl.sd | with_reducible apply Bl.drewN | with_reducible apply Bl.drew))⟩
      · have h1 : (q1 != 0) = true := by
          rw [bne_iff_ne]
          exact fun e => hgo ⟨rfl, e, by omega⟩
        clear hgo
        go_enter Try.func8, Try.ntmps8
        go_wp2_with (first | (go_at_call 11; (with_reducible refine (hA _).mono ?_); rintro e w' ⟨rfl, hg⟩; obtain ⟨n, os, rfl⟩ := hg.out; clear hg) | (go_at_call 12; (with_reducible refine (hF _).mono ?_); rintro e w' ⟨rfl, rfl⟩) | (go_at_call 17; (with_reducible refine (hC _ (by repeat (first | exact Bl.refl _ | with_reducible apply Bl.alloc | with_reducible apply Bl.grow | with_reducible apply Bl.sd | with_reducible apply Bl.drewN | with_reducible apply Bl.drew))).mono ?_); rintro e w' ⟨rfl, hg⟩; obtain ⟨n, os, rfl⟩ := hg.out; clear hg))
        all_goals
          go_ret
          exact ⟨rfl, (by repeat (first | exact Bl.refl _ | with_reducible apply Bl.alloc | with_reducible apply Bl.grow | with_reducible apply Bl.sd | with_reducible apply Bl.drewN | with_reducible apply Bl.drew))⟩
  case pos =>
    have hmx := mixed
    obtain ⟨hf, h1, h2⟩ := hgo
    rw [hf] at hF
    rw [h1] at hC
    have h2z : ¬ (60 : Int) < (bs.length : Int) := by omega
    have HR := Hd.mk hr
    have HB := Hd.mk hrb
    have H1 := Hd.mk h1
    have HF := Hd.mk hf
    clear hr hrb h1 hf
    go_enter Try.func8, Try.ntmps8
    go_upto_region 6 with (first | (go_at_call 11; (with_reducible refine (hA _).mono ?_); rintro e w' ⟨rfl, hg⟩; obtain ⟨n, os, rfl⟩ := hg.out; clear hg) | (go_at_call 12; (with_reducible refine (hF _).mono ?_); rintro e w' ⟨rfl, rfl⟩) | (go_at_call 17; (with_reducible refine (hC _ (by repeat (first | exact Bl.refl _ | with_reducible apply Bl.alloc | with_reducible apply Bl.grow | with_reducible apply Bl.sd | with_reducible apply Bl.drewN | with_reducible apply Bl.drew))).mono ?_); rintro e w' ⟨rfl, hg⟩; obtain ⟨n, os, rfl⟩ := hg.out; clear hg))
    generalize hW : Sort.grow _ _ = W
    have HWe := Hd.mk hW
    clear hW
    have f0 : W.cell? ⟨w.heap.size, 0, none⟩ = some (.int .i64 nd) := by rw [← HWe.out]; go_simp
    have hB5 : Bl w W := by rw [← HWe.out]; exact (by repeat (first | exact Bl.refl _ | with_reducible apply Bl.alloc | with_reducible apply Bl.grow | with_reducible apply Bl.sd | with_reducible apply Bl.drewN | with_reducible apply Bl.drew))
    have z0 := World.block_lt_of_cell? W _ f0
    have HB5 := Hd.mk hB5
    have R0 := Hd.mk (HR.out.bl hB5)
    have hl := HB.out.1
    clear HWe hB5 hA hF hC HR
    go_loopg [0, 8, 9, 10, 11, 12, 13, 14, 32] bs.length (fun gg s0 s8 s9 s10 s11 s12 s13 s14 s32 wr => ∃ (k : Nat) (A1 : Option Addr) (c1 : Nat) (l1 : List Nb), k ≤ bs.length ∧ bs.length - k ≤ gg ∧ s32 = .int .i64 k ∧ s0 = .slice A1 l1.length c1 ∧
      Hd (l1.length ≤ c1 ∧ Rd wr A1 l1 ∧ checkL l1 = 0) ∧ Hd (Bl W wr))
    case atStart => exact ⟨0, A, c, l, Nat.zero_le _, by omega, rfl, rfl, ⟨hc, R0.out, H1.out⟩, ⟨Bl.refl _⟩⟩
    case round =>
      obtain ⟨k, A1, c1, l1, hk, hg, rfl, rfl, HL, HB1⟩ := hrel
      by_cases hlt : k < bs.length
      · obtain ⟨b, off, rfl, hb, hcell⟩ := HB.out.2 (by omega)
        have hbw := HB5.out.trans HB1.out
        have fb : wr.cell? ⟨b, off + k, none⟩ = some (.bool (nth bs k)) := (Below.cell hbw (p := ⟨b, off + k, none⟩) hb).trans (hcell k hlt)
        have fn : wr.cell? ⟨w.heap.size, 0, none⟩ = some (.int .i64 nd) := (Below.cell HB1.out (p := ⟨w.heap.size, 0, none⟩) z0).trans f0
        have zb : b < wr.heap.size := World.block_lt_of_cell? wr _ fb
        have zn := World.block_lt_of_cell? wr _ fn
        have hltz : (k : Int) < (bs.length : Int) := by omega
        have HBw := Hd.mk hbw
        generalize nth bs k = ack at *
        clear hcell hbw
        have hI : ∀ X, Bl wr X → _ := fun X h => pindexf 30 #[.pointer (some ⟨w.heap.size, 0, none⟩)] eq30 (isN nd) A1 c1 l1 X (HL.out.2.1.bl h) HL.out.1 (fun x Y hY => clo30 w.heap.size nd x Y ((Below.cell (h.trans hY.bl) (p := ⟨w.heap.size, 0, none⟩) zn).trans fn))
        have hP : ∀ X, Bl wr X → _ := fun X h => pcount A1 c1 l1 nd ack X (HL.out.2.1.bl h) HL.out.1
        rcases idxF_spec (isN nd) l1 0 with ⟨e, hn⟩ | ⟨j, hj, e, hp, _⟩
        · rw [counts_none HL.out.2.2 hn] at hP
          rw [e] at hI
          clear hn e
          go_wp2_with (first | (go_at_call 21; (with_reducible refine (hI _ (by repeat (first | with_reducible exact Bl.refl _ | with_reducible apply Bl.alloc | with_reducible apply Bl.grow | with_reducible apply Bl.sd | with_reducible apply Bl.drewN | with_reducible apply Bl.drew))).mono ?_); rintro e w' ⟨rfl, hg⟩; obtain ⟨n, os, rfl⟩ := hg.out; clear hg) | (go_at_call 26; (with_reducible refine (hP _ (by repeat (first | with_reducible exact Bl.refl _ | with_reducible apply Bl.alloc | with_reducible apply Bl.grow | with_reducible apply Bl.sd | with_reducible apply Bl.drewN | with_reducible apply Bl.drew))).mono ?_); rintro e W1 ⟨v, rfl, ho, hb1⟩; have HBb := Hd.mk hb1; obtain ⟨A2, c2, rfl, hc2, r2⟩ := ho.rd; clear ho r2 hb1))
          go_ret
          exact ⟨rfl, HB5.out.trans (HB1.out.trans (Bl.trans (by repeat (first | with_reducible exact Bl.refl _ | with_reducible apply Bl.alloc | with_reducible apply Bl.grow | with_reducible apply Bl.sd | with_reducible apply Bl.drewN | with_reducible apply Bl.drew)) HBb.out))⟩
        · obtain ⟨m, ec, hm0, hml, hmn, ok1, ok2, hx1, hx2⟩ := counts_one (ack := ack) HL.out.2.2 hj (by simpa [isN] using hp)
          rw [ec] at hP
          rw [e] at hI
          simp only [Nat.zero_add] at hI
          have hjz : (0 : Int) ≤ (j : Int) := by omega
          have hjl : (j : Int) < (l1.length : Int) := by omega
          have HX1 := Hd.mk hx1
          have HX2 := Hd.mk hx2
          have HM := Hd.mk (And.intro hm0 hml)
          have HMN := Hd.mk hmn
          clear e ec hp hx1 hx2 hm0 hml hmn
          go_upto_region 12 with (first | (go_at_call 21; (with_reducible refine (hI _ (by repeat (first | with_reducible exact Bl.refl _ | with_reducible apply Bl.alloc | with_reducible apply Bl.grow | with_reducible apply Bl.sd | with_reducible apply Bl.drewN | with_reducible apply Bl.drew))).mono ?_); rintro e w' ⟨rfl, hg⟩; obtain ⟨n, os, rfl⟩ := hg.out; clear hg) | (go_at_call 26; (with_reducible refine (hP _ (by repeat (first | with_reducible exact Bl.refl _ | with_reducible apply Bl.alloc | with_reducible apply Bl.grow | with_reducible apply Bl.sd | with_reducible apply Bl.drewN | with_reducible apply Bl.drew))).mono ?_); rintro e W1 ⟨v, rfl, ho, hb1⟩; have B1 : Bl wr W1 := Bl.trans (by repeat (first | with_reducible exact Bl.refl _ | with_reducible apply Bl.alloc | with_reducible apply Bl.grow | with_reducible apply Bl.sd | with_reducible apply Bl.drewN | with_reducible apply Bl.drew)) hb1; obtain ⟨A2, c2, rfl, hc2, r2⟩ := ho.rd; clear ho hb1))
          obtain ⟨hm0, hml⟩ := HM.out
          have hmn := HMN.out
          have r1 := HL.out.2.1.bl B1
          obtain ⟨b1, o1, rfl, zb1, cell1⟩ := r1.2 (by omega)
          obtain ⟨b2, o2, rfl, zb2, cell2⟩ := r2.2 (by omega)
          obtain ⟨_, _, _, _, p4, p5⟩ := cell1 j hj
          obtain ⟨g0, _, _, _, g4, g5⟩ := cell2 j (by omega)
          have fn1 : W1.cell? ⟨w.heap.size, 0, none⟩ = some (.int .i64 nd) := (Below.cell B1 (p := ⟨w.heap.size, 0, none⟩) zn).trans fn
          have zn1 := World.block_lt_of_cell? W1 _ fn1
          have hx1 := HX1.out
          have hx2 := HX2.out
          have hC' : ∀ X, Bl W1 X → _ := fun X h => pcheck (some ⟨b2, o2, none⟩) c2 m X (r2.bl h) hc2
          rw [hm0, hml] at hC'
          rw [hml]
          have HR2 := Hd.mk r2
          have HC2 := Hd.mk hc2
          clear HX1 HX2 HMN cell1 cell2 r1 r2
          have okx := (okN_iff _).1 ok1
          have oky := (okN_iff _).1 ok2
          have hcr := cost_right ok2
          generalize nth l1 j = x at *
          generalize nth m j = y at *
          obtain ⟨x0, x1, x2, x3, ⟨x4, x5⟩⟩ := x
          obtain ⟨y0, y1, y2, y3, ⟨y4, y5⟩⟩ := y
          dsimp only at *
          have hco1 := pcost x4 x5 (by omega)
          have hco2 := pcost y4 y5 (by omega)
          generalize costS ⟨x4, x5⟩ = C at *
          generalize costS ⟨y4, y5⟩ = D at *
          rw [hmn] at g0
          have HB1' := Hd.mk B1
          have HF1 := Hd.mk (And.intro hx1 (And.intro hx2 (And.intro hcr (And.intro okx oky))))
          clear hx1 hx2 hcr okx oky hmn hm0 hml ok1 ok2 hI hP hlt B1
          go_quiet_grown (first | (go_at_call 17; exact quiet_grown rfl (hC' _ (by repeat (first | with_reducible exact Bl.refl _ | with_reducible apply Bl.alloc | with_reducible apply Bl.grow | with_reducible apply Bl.sd | with_reducible apply Bl.drewN | with_reducible apply Bl.drew)))))
          generalize hX : Sort.grow _ _ = X
          have hBX : Bl W1 X := by rw [← hX]; exact (by repeat (first | with_reducible exact Bl.refl _ | with_reducible apply Bl.alloc | with_reducible apply Bl.grow | with_reducible apply Bl.sd | with_reducible apply Bl.drewN | with_reducible apply Bl.drew))
          have p4' := (Below.cell hBX (World.block_lt_of_cell? W1 _ p4)).trans p4
          have p5' := (Below.cell hBX (World.block_lt_of_cell? W1 _ p5)).trans p5
          have g4' := (Below.cell hBX (World.block_lt_of_cell? W1 _ g4)).trans g4
          have g5' := (Below.cell hBX (World.block_lt_of_cell? W1 _ g5)).trans g5
          have zb1' := World.block_lt_of_cell? X _ p4'
          have zb2' := World.block_lt_of_cell? X _ g4'
          have HBX := Hd.mk hBX
          clear hX hBX fn1 zn1 p4 p5 g0 g4 g5 hC' zb1 zb2
          go_upto_region 14 with fail
          go_quiet_grown (first | (go_at_call 20; with_reducible exact quiet_grown rfl (hco1 _)) | (go_at_call 20; with_reducible exact quiet_grown rfl (hco2 _)))
          generalize hY : Sort.grow _ _ = Y
          have hBY : Bl X Y := by rw [← hY]; exact (by repeat (first | with_reducible exact Bl.refl _ | with_reducible apply Bl.alloc | with_reducible apply Bl.grow | with_reducible apply Bl.sd | with_reducible apply Bl.drewN | with_reducible apply Bl.drew))
          have p4 := (Below.cell hBY (World.block_lt_of_cell? X _ p4')).trans p4'
          have p5 := (Below.cell hBY (World.block_lt_of_cell? X _ p5')).trans p5'
          have g4 := (Below.cell hBY (World.block_lt_of_cell? X _ g4')).trans g4'
          have g5 := (Below.cell hBY (World.block_lt_of_cell? X _ g5')).trans g5'
          have zb1 := World.block_lt_of_cell? Y _ p4
          have zb2 := World.block_lt_of_cell? Y _ g4
          have HBY := Hd.mk (HB1.out.trans (HB1'.out.trans (HBX.out.trans hBY)))
          have HRY := Hd.mk (HR2.out.bl (HBX.out.trans hBY))
          obtain ⟨f1, f2, ⟨t1, t2⟩, _⟩ := HF1.out
          have t1' : ¬ D < 128 := by omega
          have t2' : ¬ (1023 : Int) < D := by omega
          have hE : 4 ≤ y4 → (D == 128) = (y5 == y4) := fun h => by rw [Bool.eq_iff_iff]; simpa using f1 h
          clear hY hBY hco1 hco2 zb1' zb2' p4' p5' g4' g5' HF1 f1 t1 t2 HBX HB1' zn fn fb zb HR2 HBw f0
          by_cases c4 : 4 ≤ y4
          · have hE' := hE c4
            clear hE
            by_cases d1 : 4 ≤ x4
            · by_cases d2 : x4 < 255
              · obtain ⟨u1, u2⟩ := f2 d1 d2
                clear f2
                cases ack with
                | true =>
                  have u3 : ¬ C < D := by have := u1 rfl; omega
                  clear u1 u2
                  (go_wp2; go_roundg (bs.length - (k + 1)); (case measure => omega); (case rel => exact ⟨k + 1, _, c2, m, by omega, by omega, by go_num, by rw [HM.out.2], ⟨HC2.out, HRY.out.bl (by repeat (first | with_reducible exact Bl.refl _ | with_reducible apply Bl.alloc | with_reducible apply Bl.grow | with_reducible apply Bl.sd | with_reducible apply Bl.drewN | with_reducible apply Bl.drew)), HM.out.1⟩, ⟨HBY.out.trans (by repeat (first | with_reducible exact Bl.refl _ | with_reducible apply Bl.alloc | with_reducible apply Bl.grow | with_reducible apply Bl.sd | with_reducible apply Bl.drewN | with_reducible apply Bl.drew))⟩⟩))
                | false =>
                  have u3 : ¬ D < C := by have := u2 rfl; omega
                  clear u1 u2
                  (go_wp2; go_roundg (bs.length - (k + 1)); (case measure => omega); (case rel => exact ⟨k + 1, _, c2, m, by omega, by omega, by go_num, by rw [HM.out.2], ⟨HC2.out, HRY.out.bl (by repeat (first | with_reducible exact Bl.refl _ | with_reducible apply Bl.alloc | with_reducible apply Bl.grow | with_reducible apply Bl.sd | with_reducible apply Bl.drewN | with_reducible apply Bl.drew)), HM.out.1⟩, ⟨HBY.out.trans (by repeat (first | with_reducible exact Bl.refl _ | with_reducible apply Bl.alloc | with_reducible apply Bl.grow | with_reducible apply Bl.sd | with_reducible apply Bl.drewN | with_reducible apply Bl.drew))⟩⟩))
              · clear f2
                (go_wp2; go_roundg (bs.length - (k + 1)); (case measure => omega); (case rel => exact ⟨k + 1, _, c2, m, by omega, by omega, by go_num, by rw [HM.out.2], ⟨HC2.out, HRY.out.bl (by repeat (first | with_reducible exact Bl.refl _ | with_reducible apply Bl.alloc | with_reducible apply Bl.grow | with_reducible apply Bl.sd | with_reducible apply Bl.drewN | with_reducible apply Bl.drew)), HM.out.1⟩, ⟨HBY.out.trans (by repeat (first | with_reducible exact Bl.refl _ | with_reducible apply Bl.alloc | with_reducible apply Bl.grow | with_reducible apply Bl.sd | with_reducible apply Bl.drewN | with_reducible apply Bl.drew))⟩⟩))
            · clear f2
              (go_wp2; go_roundg (bs.length - (k + 1)); (case measure => omega); (case rel => exact ⟨k + 1, _, c2, m, by omega, by omega, by go_num, by rw [HM.out.2], ⟨HC2.out, HRY.out.bl (by repeat (first | with_reducible exact Bl.refl _ | with_reducible apply Bl.alloc | with_reducible apply Bl.grow | with_reducible apply Bl.sd | with_reducible apply Bl.drewN | with_reducible apply Bl.drew)), HM.out.1⟩, ⟨HBY.out.trans (by repeat (first | with_reducible exact Bl.refl _ | with_reducible apply Bl.alloc | with_reducible apply Bl.grow | with_reducible apply Bl.sd | with_reducible apply Bl.drewN | with_reducible apply Bl.drew))⟩⟩))
          · clear hE
            by_cases d1 : 4 ≤ x4
            · by_cases d2 : x4 < 255
              · obtain ⟨u1, u2⟩ := f2 d1 d2
                clear f2
                cases ack with
                | true =>
                  have u3 : ¬ C < D := by have := u1 rfl; omega
                  clear u1 u2
                  (go_wp2; go_roundg (bs.length - (k + 1)); (case measure => omega); (case rel => exact ⟨k + 1, _, c2, m, by omega, by omega, by go_num, by rw [HM.out.2], ⟨HC2.out, HRY.out.bl (by repeat (first | with_reducible exact Bl.refl _ | with_reducible apply Bl.alloc | with_reducible apply Bl.grow | with_reducible apply Bl.sd | with_reducible apply Bl.drewN | with_reducible apply Bl.drew)), HM.out.1⟩, ⟨HBY.out.trans (by repeat (first | with_reducible exact Bl.refl _ | with_reducible apply Bl.alloc | with_reducible apply Bl.grow | with_reducible apply Bl.sd | with_reducible apply Bl.drewN | with_reducible apply Bl.drew))⟩⟩))
                | false =>
                  have u3 : ¬ D < C := by have := u2 rfl; omega
                  clear u1 u2
                  (go_wp2; go_roundg (bs.length - (k + 1)); (case measure => omega); (case rel => exact ⟨k + 1, _, c2, m, by omega, by omega, by go_num, by rw [HM.out.2], ⟨HC2.out, HRY.out.bl (by repeat (first | with_reducible exact Bl.refl _ | with_reducible apply Bl.alloc | with_reducible apply Bl.grow | with_reducible apply Bl.sd | with_reducible apply Bl.drewN | with_reducible apply Bl.drew)), HM.out.1⟩, ⟨HBY.out.trans (by repeat (first | with_reducible exact Bl.refl _ | with_reducible apply Bl.alloc | with_reducible apply Bl.grow | with_reducible apply Bl.sd | with_reducible apply Bl.drewN | with_reducible apply Bl.drew))⟩⟩))
              · clear f2
                (go_wp2; go_roundg (bs.length - (k + 1)); (case measure => omega); (case rel => exact ⟨k + 1, _, c2, m, by omega, by omega, by go_num, by rw [HM.out.2], ⟨HC2.out, HRY.out.bl (by repeat (first | with_reducible exact Bl.refl _ | with_reducible apply Bl.alloc | with_reducible apply Bl.grow | with_reducible apply Bl.sd | with_reducible apply Bl.drewN | with_reducible apply Bl.drew)), HM.out.1⟩, ⟨HBY.out.trans (by repeat (first | with_reducible exact Bl.refl _ | with_reducible apply Bl.alloc | with_reducible apply Bl.grow | with_reducible apply Bl.sd | with_reducible apply Bl.drewN | with_reducible apply Bl.drew))⟩⟩))
            · clear f2
              (go_wp2; go_roundg (bs.length - (k + 1)); (case measure => omega); (case rel => exact ⟨k + 1, _, c2, m, by omega, by omega, by go_num, by rw [HM.out.2], ⟨HC2.out, HRY.out.bl (by repeat (first | with_reducible exact Bl.refl _ | with_reducible apply Bl.alloc | with_reducible apply Bl.grow | with_reducible apply Bl.sd | with_reducible apply Bl.drewN | with_reducible apply Bl.drew)), HM.out.1⟩, ⟨HBY.out.trans (by repeat (first | with_reducible exact Bl.refl _ | with_reducible apply Bl.alloc | with_reducible apply Bl.grow | with_reducible apply Bl.sd | with_reducible apply Bl.drewN | with_reducible apply Bl.drew))⟩⟩))
      · obtain rfl : k = bs.length := by omega
        have hltz : ¬ ((bs.length : Int) < (bs.length : Int)) := by omega
        go_wp2
        go_ret
        exact ⟨rfl, HB5.out.trans (HB1.out.trans (by repeat (first | with_reducible exact Bl.refl _ | with_reducible apply Bl.alloc | with_reducible apply Bl.grow | with_reducible apply Bl.sd | with_reducible apply Bl.drewN | with_reducible apply Bl.drew)))⟩
end Go.Proofs.Ytlifpafnkagofaa.L
