import Derived.Test.YtcknakbjiklklaaF36
import Derived.Test.YtcknakbjiklklaaF34
/- hopmeshref16.Remove. -/
namespace Go.Proofs.Ytcknakbjiklklaa.F
open Go.RowKit Go.Sort Go.Proofs.Ytcknakbjiklklaa.B Go.Proofs.Ytcknakbjiklklaa.S
set_option linter.unusedVariables false
set_option linter.unusedSimpArgs false
theorem Bb.refl {b : Nat} {w : World} (h : b ≤ w.heap.size) : Bb b w w := ⟨Below.refl _ _, h⟩
theorem Bb.grown {b : Nat} {w W X : World} {row : Option Nat} (h : Bb b w W) (hg : W.grownBy X row) (hr : ∀ k, row = some k → b ≤ k) : Bb b w X := ⟨Below.grown h.1 hg h.2 hr, Nat.le_trans h.2 hg.size⟩
set_option maxHeartbeats 4000000 in
set_option maxRecDepth 100000 in
theorem xrem (nd len : Int) (A : Option Addr) (c : Nat) (l : List TC) (x : TC) (w : World) (hr : Rd w A l) (hc : l.length ≤ c) :
    Calls Try.prog 40 #[.agg #[.int .i64 nd, .int .i64 len, .slice A l.length c], vT x] w (PT (remS nd len l x) w) := by
  have hm := mixed
  have hg43 := guard43
  obtain ⟨i0, hi, hz0, hz1, hz2⟩ := info_of infoE
  have hC : ∀ W, Gr w W → _ := fun W h => xcheck nd len A c l W (hr.gr h) hc
  by_cases h1 : checkT nd len l = 0
  · obtain ⟨_, _, h512, _, hso⟩ := checkT_ok h1
    have hlen := del_len (l := l) (x := x)
    have hs : remS nd len l x = if x ∈ l then (⟨nd, len, delT l x⟩, 0) else (⟨0, 0, []⟩, 7) := by unfold remS; rw [if_neg (by simp [h1])]
    rw [hs]
    rw [h1] at hC
    generalize hres : (if x ∈ l then ((⟨nd, len, delT l x⟩, 0) : Tb × Int) else (⟨0, 0, []⟩, 7)) = res
    have HRes := Hd.mk hres
    have HLen := Hd.mk hlen
    have HR := Hd.mk hr
    clear hr hs h1 hres hlen
    obtain ⟨y0, y1, y2, y3, y4, y5⟩ := x
    simp only [vT]
    go_enter Try.func40, Try.ntmps40
    go_upto_region 5 with (first | (go_at_call 14; (with_reducible refine (hC _ (by repeat (first | exact Gr.refl _ | with_reducible apply Gr.alloc | with_reducible apply Gr.grow | with_reducible apply Gr.drewN | with_reducible apply Gr.drew))).mono ?_); rintro e w' ⟨rfl, hg⟩; obtain ⟨n, os, rfl⟩ := hg.out; clear hg))
    generalize hW : World.alloc _ _ = W
    have HWe := Hd.mk hW
    clear hW
    have t0 : T3 W w.heap.size nd len (.slice A l.length c) := ⟨by rw [← HWe.out]; simp [go_sem], by rw [← HWe.out]; go_simp, by rw [← HWe.out]; go_simp, by rw [← HWe.out]; go_simp, fun k => by rw [← HWe.out]; go_simp⟩
    have t1 : T6 W (w.heap.size + 1) ⟨y0, y1, y2, y3, y4, y5⟩ := ⟨by rw [← HWe.out]; simp [go_sem], by rw [← HWe.out]; go_simp, by rw [← HWe.out]; go_simp, by rw [← HWe.out]; go_simp, by rw [← HWe.out]; go_simp, by rw [← HWe.out]; go_simp, by rw [← HWe.out]; go_simp⟩
    have t2 : T3 W (w.heap.size + 2) 0 0 (.slice none 0 0) := ⟨by rw [← HWe.out]; simp [go_sem], by rw [← HWe.out]; go_simp, by rw [← HWe.out]; go_simp, by rw [← HWe.out]; go_simp, fun k => by rw [← HWe.out]; go_simp⟩
    have t3 : T3 W (w.heap.size + (3 + os.size)) nd len (.slice none 0 0) := ⟨by rw [← HWe.out]; simp [go_sem], by rw [← HWe.out]; go_simp, by rw [← HWe.out]; go_simp, by rw [← HWe.out]; go_simp, fun k => by rw [← HWe.out]; go_simp⟩
    have BW : Bl w W := by rw [← HWe.out]; exact (by repeat (first | exact Bl.refl _ | with_reducible apply Bl.alloc | with_reducible apply Bl.grow | with_reducible apply Bl.sd | with_reducible apply Bl.drewN | with_reducible apply Bl.drew))
    have HB5 := Hd.mk BW
    have H0 := Hd.mk t0
    have H1 := Hd.mk t1
    have H2 := Hd.mk t2
    have H3 := Hd.mk t3
    have hp2 : w.heap.size ≤ w.heap.size + 2 := by omega
    have hp3 : w.heap.size ≤ w.heap.size + (3 + os.size) := by omega
    have n1 : w.heap.size ≠ w.heap.size + (3 + os.size) := by omega
    have n2 : w.heap.size + 1 ≠ w.heap.size + (3 + os.size) := by omega
    have n3 : w.heap.size + 2 ≠ w.heap.size + (3 + os.size) := by omega
    have zW0 := t0.lt
    have zW1 := t1.lt
    have zW2 := t2.lt
    have zW3 := t3.lt
    have hws := BW.size
    clear HWe BW hC t0 t1 t2 t3
    generalize w.heap.size + 1 = p1 at *
    generalize w.heap.size + 2 = p2 at *
    generalize w.heap.size + (3 + os.size) = d at *
    generalize hp0 : w.heap.size = p0 at *
    go_loopg [7] l.length (fun gg s7 wr => ∃ (k : Nat) (acc : List TC) (A1 : Option Addr) (c1 : Nat), k ≤ l.length ∧ l.length - k ≤ gg ∧ s7 = .int .i64 k ∧
      Hd (T3 wr d nd len (.slice A1 acc.length c1)) ∧ Hd (T3 wr p2 0 0 (.slice none 0 0)) ∧ Hd (T3 wr p0 nd len (.slice A l.length c)) ∧ Hd (T6 wr p1 ⟨y0, y1, y2, y3, y4, y5⟩) ∧
      Hd (Ow wr W.heap.size (.slice A1 acc.length c1) acc) ∧ Hd (acc = delT (l.take k) ⟨y0, y1, y2, y3, y4, y5⟩ ∧ acc.length ≤ k) ∧ Hd (Bl w wr ∧ W.heap.size ≤ wr.heap.size))
    case atStart => exact ⟨0, [], none, 0, Nat.zero_le _, by omega, rfl, H3, H2, H0, H1, ⟨Ow.nil _ _⟩, ⟨by simp [delT], Nat.le_refl _⟩, ⟨HB5.out, Nat.le_refl _⟩⟩
    case round =>
      obtain ⟨k, acc, A1, c1, hk, hg, rfl, HD, HE, HT, HC, HO, HS, HB⟩ := hrel
      clear H0 H1 H2 H3
      obtain ⟨zd, q0, q1, q2, qf⟩ := HD.out
      obtain ⟨zt, r0, r1, r2, rf⟩ := HT.out
      obtain ⟨zc, e0, e1, e2, e3, e4, e5⟩ := HC.out
      dsimp only at e0 e1 e2 e3 e4 e5
      have hWr := HB.out.2
      by_cases hlt : k < l.length
      · obtain ⟨b, off, rfl, hb, hcell⟩ := (HR.out.bl HB.out.1).2 (by omega)
        obtain ⟨k0, k1, k2, k3, k4, k5⟩ := hcell k hlt
        have hltz : (k : Int) < (l.length : Int) := by omega
        have hkz : (0 : Int) ≤ (k : Int) := by omega
        have hsn := del_snoc ⟨y0, y1, y2, y3, y4, y5⟩ l k hlt
        clear hcell
        generalize hx : nth l k = x at *
        obtain ⟨x0, x1, x2, x3, x4, x5⟩ := x
        dsimp only at *
        clear hx
        have HSn := Hd.mk hsn
        clear hsn
        have heq := fun W => eqt x0 y0 x1 y1 x2 y2 x3 y3 x4 y4 x5 y5 W
        have hiff := tcEq_iff ⟨x0, x1, x2, x3, x4, x5⟩ ⟨y0, y1, y2, y3, y4, y5⟩
        generalize tcEq ⟨x0, x1, x2, x3, x4, x5⟩ ⟨y0, y1, y2, y3, y4, y5⟩ = q at *
        have HI := Hd.mk hiff
        clear hiff
        cases q with
        | true =>
          go_wp2
          go_quiet (fail)
          go_wp2
          go_roundg (l.length - (k + 1))
          case measure => omega
          case rel =>
            exact ⟨k + 1, acc, A1, c1, by omega, by omega, by go_num, ⟨HD.out.bl (by repeat (first | with_reducible exact Bl.refl _ | with_reducible apply Bl.alloc | with_reducible apply Bl.grow | with_reducible apply Bl.sd | with_reducible apply Bl.drewN | with_reducible apply Bl.drew))⟩, ⟨HE.out.bl (by repeat (first | with_reducible exact Bl.refl _ | with_reducible apply Bl.alloc | with_reducible apply Bl.grow | with_reducible apply Bl.sd | with_reducible apply Bl.drewN | with_reducible apply Bl.drew))⟩, ⟨HT.out.bl (by repeat (first | with_reducible exact Bl.refl _ | with_reducible apply Bl.alloc | with_reducible apply Bl.grow | with_reducible apply Bl.sd | with_reducible apply Bl.drewN | with_reducible apply Bl.drew))⟩, ⟨HC.out.bl (by repeat (first | with_reducible exact Bl.refl _ | with_reducible apply Bl.alloc | with_reducible apply Bl.grow | with_reducible apply Bl.sd | with_reducible apply Bl.drewN | with_reducible apply Bl.drew))⟩, ⟨HO.out.bl (by repeat (first | with_reducible exact Bl.refl _ | with_reducible apply Bl.alloc | with_reducible apply Bl.grow | with_reducible apply Bl.sd | with_reducible apply Bl.drewN | with_reducible apply Bl.drew))⟩, ⟨by rw [HSn.out, if_pos (HI.out.1 (by first | trivial | rfl)), List.append_nil]; exact HS.out.1, by have := HS.out.2; omega⟩, ⟨HB.out.1.trans (by repeat (first | with_reducible exact Bl.refl _ | with_reducible apply Bl.alloc | with_reducible apply Bl.grow | with_reducible apply Bl.sd | with_reducible apply Bl.drewN | with_reducible apply Bl.drew)), by simp [go_sem]; omega⟩⟩
        | false =>
          have hne : (⟨x0, x1, x2, x3, x4, x5⟩ : TC) ≠ ⟨y0, y1, y2, y3, y4, y5⟩ := fun e => by have := HI.out.2 e; cases this
          have hac := HS.out.2
          have HNe := Hd.mk hne
          clear hne
          go_upto_region 7 with fail
          go_quiet (fail)
          go_upto_region 8 with fail
          generalize hV : World.drewN _ _ = V
          have BV : Bl wr V := by rw [← hV]; exact (by repeat (first | with_reducible exact Bl.refl _ | with_reducible apply Bl.alloc | with_reducible apply Bl.grow | with_reducible apply Bl.sd | with_reducible apply Bl.drewN | with_reducible apply Bl.drew))
          have HD2 := Hd.mk (HD.out.bl BV)
          have HE2 := Hd.mk (HE.out.bl BV)
          have HT2 := Hd.mk (HT.out.bl BV)
          have HC2 := Hd.mk (HC.out.bl BV)
          have HO2 := Hd.mk (HO.out.bl BV)
          have HB2 := Hd.mk (And.intro (HB.out.1.trans BV) (Nat.le_trans hWr BV.size))
          have o := fun q => Below.cell BV (p := ⟨b, q, none⟩) hb
          have g0 := (o _).trans k0
          have g1 := (o _).trans k1
          have g2 := (o _).trans k2
          have g3 := (o _).trans k3
          have g4 := (o _).trans k4
          have g5 := (o _).trans k5
          have zb : b < V.heap.size := World.block_lt_of_cell? V _ g0
          clear hV BV o q0 q1 q2 qf r0 r1 r2 rf e0 e1 e2 e3 e4 e5 zd zt zc k0 k1 k2 k3 k4 k5 hb HD HE HT HC HO HB hWr heq
          obtain ⟨zd, q0, q1, q2, qf⟩ := HD2.out
          obtain ⟨zt, r0, r1, r2, rf⟩ := HT2.out
          have hVs := HB2.out.2
          go_region_law (refine step_append_lies _ rfl _ _ 22 rfl W.heap.size 43 i0 _ 6 48 Try.underlying22 hi hz0 hz1 hz2 rfl (by decide) (.slice A1 acc.length c1) acc.length (tcsC acc) (by simp [Act.eval, Act.put]) (own_below HO2.out (by repeat (first | with_reducible exact Bl.refl _ | with_reducible apply Bl.alloc | with_reducible apply Bl.grow | with_reducible apply Bl.sd | with_reducible apply Bl.drewN | with_reducible apply Bl.drew))) ⟨V.heap.size, 0, none⟩ 1 1 [.int .i64 x0, .int .i64 x1, .int .i64 x2, .bool x3, .int .i64 x4, .int .i64 x5] (by simp [Act.eval, Act.put]) rfl (news_alloc _ _ _ _ (by simp [go_sem])) (by simp [Value.oneCell']) (by decide) (by simp only [maxLen]; omega) (by omega) (by simp [go_sem]; omega) _ rfl ?_; intro g1' cap1 w1 hown1 hgr1 _ _; have hb1 : Bb W.heap.size V w1 := Bb.grown (Bb.bl (Bb.refl hVs) (by repeat (first | with_reducible exact Bl.refl _ | with_reducible apply Bl.alloc | with_reducible apply Bl.grow | with_reducible apply Bl.sd | with_reducible apply Bl.drewN | with_reducible apply Bl.drew))) hgr1 (fun q hq => (World.ownsRow.lt HO2.out q hq).1); obtain ⟨zd1, m0, m1, m2, mf⟩ := HD2.out.below hb1.1 zW3; have HB1 := Hd.mk hb1; have HO1 := Hd.mk hown1; clear hown1 hgr1 hb1)
          all_goals
            have hl2 : (acc ++ [(⟨x0, x1, x2, x3, x4, x5⟩ : TC)]).length = acc.length + 1 := by simp
            have how : Ow w1 W.heap.size (.slice (some ⟨g1', 0, none⟩) (acc.length + 1) cap1) (acc ++ [⟨x0, x1, x2, x3, x4, x5⟩]) := by
              have h := HO1.out
              unfold Ow
              rw [hl2, tcsC_append]
              exact h
            have hdl : acc ++ [(⟨x0, x1, x2, x3, x4, x5⟩ : TC)] = delT (l.take (k + 1)) ⟨y0, y1, y2, y3, y4, y5⟩ := by rw [HSn.out, if_neg HNe.out, HS.out.1]
            have HO3 := Hd.mk how
            have HDl := Hd.mk hdl
            have HE3 := Hd.mk (HE2.out.below HB1.out.1 zW2)
            have HT3 := Hd.mk (HT2.out.below HB1.out.1 zW0)
            have HC3 := Hd.mk (HC2.out.below HB1.out.1 zW1)
            have HB3 := Hd.mk (And.intro (Bl.below_le HB2.out.1 HB1.out.1 (by omega)) HB1.out.2)
            clear HO1 how hdl r0 r1 r2 rf g0 g1 g2 g3 g4 g5 q0 q1 q2 qf
            generalize acc ++ [(⟨x0, x1, x2, x3, x4, x5⟩ : TC)] = acc2 at *
            obtain ⟨ze3, e0, e1, e2, ef⟩ := HE3.out
            obtain ⟨zt3, r0, r1, r2, rf⟩ := HT3.out
            obtain ⟨zc3, f0, f1, f2, f3, f4, f5⟩ := HC3.out
            dsimp only at f0 f1 f2 f3 f4 f5
            go_wp2
            go_roundg (l.length - (k + 1))
            case measure => omega
            case rel =>
              exact ⟨k + 1, acc2, some ⟨g1', 0, none⟩, cap1, by omega, by omega, by go_num, ⟨⟨by simp [go_sem]; omega, by go_simp, by go_simp, by rw [hl2]; go_simp, fun k => by go_simp⟩⟩, ⟨⟨by simp [go_sem]; omega, by go_simp, by go_simp, by go_simp, fun k => by go_simp⟩⟩, ⟨⟨by simp [go_sem]; omega, by go_simp, by go_simp, by go_simp, fun k => by go_simp⟩⟩,
                ⟨⟨by simp [go_sem]; omega, by go_simp, by go_simp, by go_simp, by go_simp, by go_simp, by go_simp⟩⟩, ⟨by rw [hl2]; exact Ow.bl (Ow.setCell HO3.out zW3 _) (by repeat (first | with_reducible exact Bl.refl _ | with_reducible apply Bl.alloc | with_reducible apply Bl.grow | with_reducible apply Bl.sd | with_reducible apply Bl.drewN | with_reducible apply Bl.drew))⟩, ⟨HDl.out, by omega⟩, ⟨(by repeat (first | with_reducible exact HB3.out.1 | with_reducible apply Bl.drewN | with_reducible apply Bl.drew | with_reducible refine Bl.setCell ?_ (by omega))), by have := HB3.out.2; simp [go_sem]; omega⟩⟩
      · obtain rfl : k = l.length := by omega
        have hltz : ¬ ((l.length : Int) < (l.length : Int)) := by omega
        obtain ⟨ze, v0, v1, v2, vf⟩ := HE.out
        have hacc := HS.out.1
        rw [List.take_length] at hacc
        have HAcc := Hd.mk hacc
        clear hacc
        by_cases hmem : (⟨y0, y1, y2, y3, y4, y5⟩ : TC) ∈ l
        · have hlb : ((acc.length : Int) == (l.length : Int)) = false := by
            rw [beq_eq_false_iff_ne]
            intro e
            exact HLen.out.1 (by rw [← HAcc.out]; omega) hmem
          have e := HRes.out
          rw [if_pos hmem, ← HAcc.out] at e
          subst e
          clear hmem HRes
          subst hp0
          go_wp2
          refine ⟨rfl, _, by simp [results, Try.results40, go_sem, v0, v1, v2]; (repeat' first | rfl | apply And.intro), ⟨_, rfl, Ow.lower (by repeat (first | with_reducible exact HO.out | with_reducible refine Ow.setCell ?_ (by omega) _)) hws, (by repeat (first | with_reducible exact HB.out.1 | with_reducible refine Bl.setCell ?_ (by omega)))⟩⟩
        · have hlb : ((acc.length : Int) == (l.length : Int)) = true := by
            rw [beq_iff_eq]
            have := HLen.out.2 hmem
            rw [← HAcc.out] at this
            omega
          have e := HRes.out
          rw [if_neg hmem] at e
          subst e
          clear hmem HRes
          subst hp0
          go_wp2
          refine ⟨rfl, _, by simp [results, Try.results40, go_sem, v0, v1, v2]; (repeat' first | rfl | apply And.intro), PT.nil (by repeat (first | with_reducible exact HB.out.1 | with_reducible refine Bl.setCell ?_ (by omega)))⟩
  · have hs : remS nd len l x = (⟨0, 0, []⟩, 1) := by unfold remS; rw [if_pos h1]
    rw [hs]
    obtain ⟨x0, x1, x2, x3, x4, x5⟩ := x
    simp only [vT]
    clear hr hs
    generalize checkT nd len l = q at *
    have h2' : (q != 0) = true := by simp [h1]
    go_enter Try.func40, Try.ntmps40
    go_wp2_with (first | (go_at_call 14; (with_reducible refine (hC _ (by repeat (first | exact Gr.refl _ | with_reducible apply Gr.alloc | with_reducible apply Gr.grow | with_reducible apply Gr.drewN | with_reducible apply Gr.drew))).mono ?_); rintro e w' ⟨rfl, hg⟩; obtain ⟨n, os, rfl⟩ := hg.out; clear hg))
    refine ⟨rfl, _, by simp [results, Try.results40, go_sem]; (repeat' first | rfl | apply And.intro), PT.nil (by repeat (first | exact Bl.refl _ | with_reducible apply Bl.alloc | with_reducible apply Bl.grow | with_reducible apply Bl.sd | with_reducible apply Bl.drewN | with_reducible apply Bl.drew))⟩
end Go.Proofs.Ytcknakbjiklklaa.F
