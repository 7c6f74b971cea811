import Derived.Test.YtcknakbjiklklaaF31
/- hopmeshref16.Mask. -/
namespace Go.Proofs.Ytcknakbjiklklaa.F
open Go.RowKit Go.Sort Go.Proofs.Ytcknakbjiklklaa.B Go.Proofs.Ytcknakbjiklklaa.S
set_option linter.unusedVariables false
set_option linter.unusedSimpArgs false
theorem xof (len offs self : Int) (A : Option Addr) (c : Nat) (l : List SC) (w : World) (hr : RdS w A l) (hc : l.length ≤ c) :
    Calls Try.prog 17 #[.agg #[.int .i64 len, .int .i64 offs, .slice A l.length c], .int .i64 self] w fun e w' => ∃ v, e = .returned (.tuple #[.agg #[.int .i64 (ofS len offs l self).1.n, .int .i64 (ofS len offs l self).1.len, v], .int .i64 (ofS len offs l self).2]) ∧ Ow w' w.heap.size v (ofS len offs l self).1.l ∧ Bl w w' := by
  cases h1 : rightS len offs l with
  | false => exact xof_early len offs self A c l w hr hc (.inl h1)
  | true =>
    cases h2 : win self 0 31 with
    | false => exact xof_early len offs self A c l w hr hc (.inr h2)
    | true => exact xof_main len offs self A c l w hr hc h1 h2
theorem qbitG (n a : Int) (hn : 0 ≤ n) (hn1 : n < 65536) (h0 : 0 ≤ a) (h1 : a ≤ 16) (w : World) : Calls Try.prog 55 #[.int .i64 n, .int .i64 a] w fun e w' => e = .returned (.bool (bitS n a)) ∧ Gr w w' :=
  (qbit n a hn hn1 h0 h1 w).mono fun e w' ⟨a, b⟩ => ⟨a, by subst b; exact Gr.refl _⟩
theorem set_self {α : Type} [Inhabited α] (l : List α) (i : Nat) : l.set i (nth l i) = l := by
  rcases Nat.lt_or_ge i l.length with h | h
  · rw [nth_eq l i h, List.set_getElem_self]
  · rw [List.set_eq_of_length_le h]
set_option maxHeartbeats 4000000 in
set_option maxRecDepth 100000 in
theorem xmask (len offs : Int) (A : Option Addr) (c : Nat) (l : List SC) (w : World) (hr : RdS w A l) (hc : l.length ≤ c) :
    Calls Try.prog 19 #[.agg #[.int .i64 len, .int .i64 offs, .slice A l.length c]] w fun e w' => ∃ v, e = .returned (.tuple #[v, .int .i64 (maskS len offs l).2]) ∧ OwI w' w.heap.size v (maskS len offs l).1 ∧ Bl w w' := by
  have hm := mixed
  obtain ⟨i0, hi, hz0, hz1, hz2⟩ := info_of info3
  have hC : ∀ W, Gr w W → _ := fun W h => qformed len offs A c l W (hr.gr h) hc
  cases h1 : rightS len offs l with
  | false =>
    have hs : maskS len offs l = ([], 1) := by unfold maskS; rw [if_pos h1]
    rw [hs]
    rw [h1] at hC
    clear hr hs h1
    go_enter Try.func19, Try.ntmps19
    go_wp2_with (first | (go_at_call 51; (with_reducible refine (hC _ (by repeat (first | exact Gr.refl _ | with_reducible apply Gr.alloc | with_reducible apply Gr.grow | with_reducible apply Gr.drewN | with_reducible apply Gr.drew))).mono ?_); rintro e w' ⟨rfl, hg⟩; obtain ⟨n, os, rfl⟩ := hg.out; clear hg))
    exact bodyPost_ret (v := .tuple #[.slice none 0 0, .int .i64 1]) (by simp [results, Try.results19, go_sem]) rfl ⟨_, rfl, OwI.nil _ _, (by repeat (first | exact Bl.refl _ | with_reducible apply Bl.alloc | with_reducible apply Bl.grow | with_reducible apply Bl.sd | with_reducible apply Bl.drewN | with_reducible apply Bl.drew))⟩
  | true =>
    have hs : maskS len offs l = (maskF (List.replicate len.toNat (2 ^ offs.toNat - 1)) l, 0) := by unfold maskS; rw [if_neg (by rw [h1]; decide)]
    rw [hs]
    obtain ⟨⟨l0, l1⟩, ⟨o0, o1⟩, h512, hgood⟩ := right_ok h1
    obtain ⟨p0, p1⟩ := pow17z o1
    rw [h1] at hC
    have HR := Hd.mk hr
    have HGood := Hd.mk hgood
    clear hr hs h1 hgood
    generalize hfin : maskF (List.replicate len.toNat (2 ^ offs.toNat - 1)) l = fin
    have HFin := Hd.mk hfin
    clear hfin
    have hw2 : IntKind.i64.wrap (2 ^ offs.toNat - 1) = 2 ^ offs.toNat - 1 := IntWalk.i64_in _ (by omega)
    have hP : ∀ W, _ := fun W => qpower offs (by omega) o1 W
    have HP := Hd.mk (And.intro p0 p1)
    clear p0 p1
    go_enter Try.func19, Try.ntmps19
    go_upto_region 5 with (first | (go_at_call 51; (with_reducible refine (hC _ (by repeat (first | exact Gr.refl _ | with_reducible apply Gr.alloc | with_reducible apply Gr.grow | with_reducible apply Gr.drewN | with_reducible apply Gr.drew))).mono ?_); rintro e w' ⟨rfl, hg⟩; obtain ⟨n, os, rfl⟩ := hg.out; clear hg))
    generalize hV : Sort.grow _ _ = V
    have HVe := Hd.mk hV
    clear hV
    have hbs : V.heap.size = w.heap.size + (1 + os.size) := by rw [← HVe.out]; simp [go_sem]
    have tV : T3 V w.heap.size len offs (.slice A l.length c) := ⟨by rw [← HVe.out]; simp [go_sem], by rw [← HVe.out]; go_simp, by rw [← HVe.out]; go_simp, by rw [← HVe.out]; go_simp, fun k => by rw [← HVe.out]; go_simp⟩
    have BV : Bl w V := by rw [← HVe.out]; exact (by repeat (first | exact Bl.refl _ | with_reducible apply Bl.alloc | with_reducible apply Bl.grow | with_reducible apply Bl.sd | with_reducible apply Bl.drewN | with_reducible apply Bl.drew))
    clear HVe hC
    rw [← hbs]
    have HOw : Hd (OwI (V.alloc (Obj.cells #[] 3)) V.heap.size (.slice (some ⟨V.heap.size, 0, none⟩) 0 0) []) := ⟨World.ownsRow_lit V #[] 0 (Nat.le_refl _) (Nat.zero_le _) (by simp)⟩
    have HB0 := Hd.mk BV
    have HTV := Hd.mk tV
    have HRV := Hd.mk (HR.out.bl BV)
    have zwV := tV.lt
    have hwl : w.heap.size ≤ V.heap.size := BV.size
    clear hbs BV tV HR
    generalize hw0 : w.heap.size = w0 at *
    go_loopg [4, 5] len.toNat (fun gg s4 s5 wr => ∃ k : Nat, k ≤ len.toNat ∧ len.toNat - k ≤ gg ∧ s5 = .int .i64 k ∧ Hd (OwI wr V.heap.size s4 (List.replicate k (2 ^ offs.toNat - 1))) ∧ Hd (Bl V wr))
    case atStart => exact ⟨0, Nat.zero_le _, by omega, rfl, HOw, ⟨(by repeat (first | with_reducible exact Bl.refl _ | with_reducible apply Bl.alloc | with_reducible apply Bl.grow | with_reducible apply Bl.sd | with_reducible apply Bl.drewN | with_reducible apply Bl.drew))⟩⟩
    case round =>
      obtain ⟨k, hk, hg, rfl, HO, HB⟩ := hrel
      by_cases hlt : k < len.toNat
      · have hltz : (k : Int) < len := by omega
        obtain ⟨zd, d0, d1, d2, df⟩ := HTV.out.bl HB.out
        have hsz := HB.out.size
        go_wp2_with (first | (at_builtin; refine wpList_append_own_at _ rfl _ _ 36 rfl V.heap.size 3 i0 _ 1 8 Try.underlying36 hi hz0 hz1 hz2 rfl (by decide) _ _ _ rfl (own_below HO.out (by repeat (first | with_reducible exact Bl.refl _ | with_reducible apply Bl.alloc | with_reducible apply Bl.grow | with_reducible apply Bl.sd | with_reducible apply Bl.drewN | with_reducible apply Bl.drew))) ⟨wr.heap.size, 0, none⟩ 1 1 [.int .i64 (2 ^ offs.toNat - 1)] rfl rfl (news_alloc _ _ _ _ rfl) (by simp [Value.oneCell']) (by simp only [maxLen, List.length_replicate]; omega) (by simp only [List.length_replicate]; omega) (by simp [go_sem]; omega) ?_) | (go_at_call 54; (with_reducible refine (hP _).mono ?_); rintro e w' ⟨rfl, rfl⟩))
        intro v1 w1 hown1 hgr1 _ _
        have HO1 := Hd.mk hown1
        have HG1 := Hd.mk hgr1
        clear hown1 hgr1
        go_wp2
        go_roundg (len.toNat - (k + 1))
        case measure => omega
        case rel =>
          refine ⟨k + 1, by omega, by omega, by go_num, ⟨?_⟩, ⟨Bl.grown (HB.out.alloc _) HG1.out (fun q hq => (World.ownsRow.lt HO.out q hq).1)⟩⟩
          have h := HO1.out
          unfold OwI
          rw [List.replicate_succ', List.length_append, List.length_replicate]
          unfold iC at h ⊢
          rw [List.map_append]
          exact h
      · obtain rfl : k = len.toNat := by omega
        have hltz : ¬ ((len.toNat : Int) < len) := by omega
        have hK : (len.toNat : Int) = len := by omega
        have HK := Hd.mk hK
        have HO' := HO.out
        have hfl : (List.replicate len.toNat (2 ^ offs.toNat - 1 : Int)).length = len.toNat := List.length_replicate
        have hfb : ∀ j, j < (List.replicate len.toNat (2 ^ offs.toNat - 1 : Int)).length → 0 ≤ nth (List.replicate len.toNat (2 ^ offs.toNat - 1 : Int)) j ∧ nth (List.replicate len.toNat (2 ^ offs.toNat - 1 : Int)) j < 65536 := by
          intro j hj
          rw [nth_eq _ _ hj, List.getElem_replicate]
          have := HP.out
          omega
        generalize List.replicate len.toNat (2 ^ offs.toNat - 1 : Int) = f0 at *
        obtain ⟨g, cap, rfl, hgb, hgw, hcap, hcm, hfz, hcell⟩ := HO'.form (by omega)
        rw [hfl] at HO' ⊢
        obtain ⟨zd, d0, d1, d2, df⟩ := HTV.out.bl HB.out
        have HI := Hd.mk hfb
        have HOI := Hd.mk HO'
        have HBw := HB
        have HFl := Hd.mk hfl
        clear hcell hfb HO' HO hfl hK hP
        go_upto_region 9 with fail
        go_loopg [6, 7] l.length (fun gg s6 s7 wq => ∃ (k : Nat) (f : List Int), k ≤ l.length ∧ l.length - k ≤ gg ∧ s6 = .int .i64 k ∧ Hd (f.length = len.toNat) ∧ Hd (OwI wq V.heap.size (.slice (some ⟨g, 0, none⟩) len.toNat cap) f) ∧
          Hd (∀ j, j < f.length → 0 ≤ nth f j ∧ nth f j < 65536) ∧ Hd (fin = maskF f (l.drop k)) ∧ Hd (Bl V wq ∧ g < wq.heap.size))
        case atStart => exact ⟨0, f0, Nat.zero_le _, by omega, rfl, HFl, HOI, HI, ⟨HFin.out.symm⟩, ⟨HBw.out, hgw⟩⟩
        case round =>
          obtain ⟨k, f, hk, hg, rfl, HFl2, HO2, HI2, HF2, HB2⟩ := hrel
          obtain ⟨zd, d0, d1, d2, df⟩ := HTV.out.bl HB2.out.1
          by_cases hlt : k < l.length
          · obtain ⟨b, off, rfl, hb, hcell⟩ := (HRV.out.bl HB2.out.1).2 (by omega)
            obtain ⟨k0, k1, k2, k3, k4⟩ := hcell k hlt
            have hltz2 : (k : Int) < (l.length : Int) := by omega
            have hkz : (0 : Int) ≤ (k : Int) := by omega
            have hst := maskF_step (f := f) hlt
            obtain ⟨⟨q0, q1⟩, ⟨q2, q3⟩, _⟩ := bad_not (HGood.out k hlt)
            clear hcell
            generalize nth l k = x at *
            obtain ⟨x0, x1, x2, x3, x4⟩ := x
            dsimp only at *
            have hfl := HFl2.out
            have HO3 : OwI wr V.heap.size (.slice (some ⟨g, 0, none⟩) f.length cap) f := by rw [hfl]; exact HO2.out
            have fc : wr.cell? ⟨g, x0.toNat, none⟩ = some (.int .i64 (nth f x0.toNat)) := by
              rw [World.ownsRow.cellAt HO3 _ (by omega)]
              exact iC_at f _ (by omega)
            have ff : ∀ k, wr.frozen? ⟨g, k, none⟩ = false := fun k => World.ownsRow.frozenAt HO3 k
            obtain ⟨a0, a1⟩ := HI2.out x0.toNat (by omega)
            have hgq := HB2.out.2
            have hbit : ∀ W, _ := fun W => qbitG (nth f x0.toNat) x1 a0 a1 q2 (by omega) W
            have hpow : ∀ W, _ := fun W => qpower x1 q2 (by omega) W
            have hbd := clr_bd (k := x1) a0 a1
            have hclr : clrS (nth f x0.toNat) x1 = if bitS (nth f x0.toNat) x1 = true then nth f x0.toNat - 2 ^ x1.toNat else nth f x0.toNat := rfl
            have hself := set_self f x0.toNat
            have hHI : ∀ j, j < (f.set x0.toNat (clrS (nth f x0.toNat) x1)).length → 0 ≤ nth (f.set x0.toNat (clrS (nth f x0.toNat) x1)) j ∧ nth (f.set x0.toNat (clrS (nth f x0.toNat) x1)) j < 65536 := by
              intro j hj
              rw [nth_eq _ _ hj, List.getElem_set]
              split
              · exact hbd
              · rw [List.length_set] at hj
                rw [← nth_eq f j hj]
                exact HI2.out j hj
            have hset := fun (x : Int) => OwI.set (i := x0.toNat) (x := x) HO3
            have q1' : x0 < (len.toNat : Int) := by omega
            have hlz : (len.toNat : Int) = len := by omega
            generalize bitS (nth f x0.toNat) x1 = bq at *
            go_upto_region 12 with fail
            generalize hX : World.alloc _ _ = X
            have HXe := Hd.mk hX
            clear hX
            have e0 : X.cell? ⟨wr.heap.size, 0, none⟩ = some (.int .i64 x0) := by rw [← HXe.out]; go_simp
            have e1 : X.cell? ⟨wr.heap.size, 1, none⟩ = some (.int .i64 x1) := by rw [← HXe.out]; go_simp
            have BX : Bl wr X := by rw [← HXe.out]; exact (by repeat (first | with_reducible exact Bl.refl _ | with_reducible apply Bl.alloc | with_reducible apply Bl.grow | with_reducible apply Bl.sd | with_reducible apply Bl.drewN | with_reducible apply Bl.drew))
            have ze := World.block_lt_of_cell? X _ e0
            dsimp only at ze
            have fcX := (Below.cell BX (p := ⟨g, x0.toNat, none⟩) hgq).trans fc
            have hgX : g < X.heap.size := Nat.lt_of_lt_of_le hgq BX.size
            have HOX := Hd.mk (OwI.bl HO3 BX)
            have HBX := Hd.mk (And.intro (HB2.out.1.trans BX) hgX)
            have hne : wr.heap.size ≠ g := by omega
            have HHI := Hd.mk hHI
            have HSt := Hd.mk hst
            have HClr := Hd.mk hclr
            have HSelf := Hd.mk hself
            generalize clrS (nth f x0.toNat) x1 = y at *
            generalize hna : nth f x0.toNat = a at *
            have HNa := Hd.mk hna
            have hhm : w0 < g := by omega
            clear hna hst hHI hset hself hclr hbd HO3 HXe BX k0 k1 k2 k3 k4 hb d0 d1 d2 df zd fc ff
            generalize wr.heap.size = ec at *
            go_quiet_grown (first | (go_at_call 55; with_reducible exact quiet_grown rfl (hbit _)))
            generalize hX2 : Sort.grow _ _ = X2
            have hg2 : Gr X X2 := by rw [← hX2]; exact (by repeat (first | exact Gr.refl _ | with_reducible apply Gr.alloc | with_reducible apply Gr.grow | with_reducible apply Gr.drewN | with_reducible apply Gr.drew))
            have oe := fun q => Below.cell hg2.bl (p := ⟨ec, q, none⟩) ze
            have c0 := (oe 0).trans e0
            have c1' := (oe 1).trans e1
            have ze2 : ec < X2.heap.size := World.block_lt_of_cell? X2 _ c0
            have fc2 := (Below.cell hg2.bl (p := ⟨g, x0.toNat, none⟩) hgX).trans fcX
            have hg2s : g < X2.heap.size := Nat.lt_of_lt_of_le hgX hg2.size
            have HO2' := OwI.bl HOX.out hg2.bl
            have ff2 : ∀ k, X2.frozen? ⟨g, k, none⟩ = false := fun k => World.ownsRow.frozenAt HO2' k
            have HSet := Hd.mk (fun (x : Int) => OwI.set (i := x0.toNat) (x := x) HO2')
            have HO4 := Hd.mk HO2'
            have HB4 := Hd.mk (And.intro (HBX.out.1.trans hg2.bl) hg2s)
            clear hX2 hg2 oe e0 e1 ze fcX hgX HOX HBX HO2' hbit HO2 HB2
            cases bq with
            | true =>
              have hya : y = a - 2 ^ x1.toNat := by rw [HClr.out, if_pos rfl]
              obtain ⟨p0, p1⟩ := pow17z (show x1 ≤ 16 by omega)
              have hwa : IntKind.i64.wrap (a - 2 ^ x1.toNat) = y := by rw [hya]; exact IntWalk.i64_in _ (by omega)
              have HYa := Hd.mk hya
              clear hya p0 p1
              go_upto_region 13 with fail
              go_region_with (go_at_call 54; (with_reducible refine (hpow _).mono ?_); rintro e w' ⟨rfl, rfl⟩)
              all_goals
                go_wp2
                go_roundg (l.length - (k + 1))
                case measure => omega
                case rel =>
                  exact ⟨k + 1, f.set x0.toNat y, by omega, by omega, by go_num, ⟨by rw [List.length_set]; exact HFl2.out⟩, ⟨by have h := HSet.out y; rw [HFl2.out] at h; exact OwI.bl h (by repeat (first | with_reducible exact Bl.refl _ | with_reducible apply Bl.alloc | with_reducible apply Bl.grow | with_reducible apply Bl.sd | with_reducible apply Bl.drewN | with_reducible apply Bl.drew))⟩, HHI, ⟨by rw [HF2.out, HSt.out]⟩, ⟨Bl.trans (Bl.setCell HB4.out.1 hgb) (by repeat (first | with_reducible exact Bl.refl _ | with_reducible apply Bl.alloc | with_reducible apply Bl.grow | with_reducible apply Bl.sd | with_reducible apply Bl.drewN | with_reducible apply Bl.drew)), by have := HB4.out.2; simp [go_sem]; omega⟩⟩
            | false =>
              have hya : y = a := by rw [HClr.out, if_neg (by decide)]
              have hfy : f.set x0.toNat y = f := by rw [hya]; exact HSelf.out
              have HFy := Hd.mk hfy
              clear hya hfy hpow
              go_wp2
              go_roundg (l.length - (k + 1))
              case measure => omega
              case rel =>
                exact ⟨k + 1, f, by omega, by omega, by go_num, HFl2, ⟨by have h := HO4.out; rw [HFl2.out] at h; exact OwI.bl h (by repeat (first | with_reducible exact Bl.refl _ | with_reducible apply Bl.alloc | with_reducible apply Bl.grow | with_reducible apply Bl.sd | with_reducible apply Bl.drewN | with_reducible apply Bl.drew))⟩, HI2, ⟨by rw [HF2.out, HSt.out, HFy.out]⟩, ⟨HB4.out.1.trans (by repeat (first | with_reducible exact Bl.refl _ | with_reducible apply Bl.alloc | with_reducible apply Bl.grow | with_reducible apply Bl.sd | with_reducible apply Bl.drewN | with_reducible apply Bl.drew)), by have := HB4.out.2; simp [go_sem]; omega⟩⟩
          · obtain rfl : k = l.length := by omega
            have hltz2 : ¬ ((l.length : Int) < (l.length : Int)) := by omega
            have e := HF2.out
            rw [maskF_end] at e
            subst e
            subst hw0
            go_wp2
            exact bodyPost_ret (v := .tuple #[.slice (some ⟨g, 0, none⟩) len.toNat cap, .int .i64 0]) (by simp [results, Try.results19, go_sem]) rfl ⟨_, rfl, OwI.lower HO2.out HB0.out.size, HB0.out.trans HB2.out.1⟩
end Go.Proofs.Ytcknakbjiklklaa.F
