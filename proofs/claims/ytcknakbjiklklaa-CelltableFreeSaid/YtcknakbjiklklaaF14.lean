import Derived.Test.YtcknakbjiklklaaF13
import Derived.Test.YtcknakbjiklklaaF4
/- celltable.Mask. -/
namespace Go.Proofs.Ytcknakbjiklklaa.F
open Go.RowKit Go.Sort Go.Proofs.Ytcknakbjiklklaa.B Go.Proofs.Ytcknakbjiklklaa.S
set_option linter.unusedVariables false
set_option linter.unusedSimpArgs false
theorem pow17z {k : Int} (h1 : k ≤ 16) : (1 : Int) ≤ 2 ^ k.toNat ∧ (2 : Int) ^ k.toNat ≤ 65536 := by
  rw [pow16z]
  have : (2 : Nat) ^ k.toNat ≤ 2 ^ 16 := Nat.pow_le_pow_right (by omega) (by omega)
  have h0 : 0 < (2 : Nat) ^ k.toNat := Nat.two_pow_pos _
  have h2 : (2 : Nat) ^ 16 = 65536 := rfl
  rw [h2] at this
  generalize (2 : Nat) ^ k.toNat = P at *
  omega
theorem maskF_step {f : List Int} {l : List SC} {k : Nat} (h : k < l.length) : maskF f (l.drop k) = maskF (f.set (nth l k).sl.toNat (clrS (nth f (nth l k).sl.toNat) (nth l k).off)) (l.drop (k + 1)) := by
  rw [drop_at l k h]; simp only [maskF]
theorem maskF_end (f : List Int) (l : List SC) : maskF f (l.drop l.length) = f := by simp [maskF]
theorem right_ok {len offs : Int} {l : List SC} (h : rightS len offs l = true) : (1 ≤ len ∧ len ≤ 512) ∧ (1 ≤ offs ∧ offs ≤ 16) ∧ l.length ≤ 512 ∧ ∀ k, k < l.length → badC len offs (nth l k) = false := by
  unfold rightS at h
  rw [Bool.and_eq_true] at h
  obtain ⟨a, b, c⟩ := of_decide_eq_true h.1
  refine ⟨a, b, c, fun k hk => ?_⟩
  have := h.2
  rw [Bool.not_eq_true', List.any_eq_false] at this
  have := this _ (List.getElem_mem hk)
  rw [nth_eq _ _ hk]
  simpa using this
theorem bad_not {len offs : Int} {x : SC} (h : badC len offs x = false) : (0 ≤ x.sl ∧ x.sl < len) ∧ (0 ≤ x.off ∧ x.off < offs) ∧ (0 ≤ x.fr ∧ x.fr ≤ 31) ∧ (0 ≤ x.tt ∧ x.tt ≤ 31) ∧ x.fr ≠ x.tt ∧ 0 ≤ x.fl := by
  unfold badC at h
  simp only [Bool.or_eq_false_iff, decide_eq_false_iff_not, Bool.not_eq_false', win_iff, beq_eq_false_iff_ne] at h
  omega
set_option maxHeartbeats 4000000 in
set_option maxRecDepth 100000 in
theorem tmask (len offs : Int) (A : Option Addr) (c : Nat) (l : List SC) (w : World) (hr : RdS w A l) (hc : l.length ≤ c) :
    Calls Try.prog 18 #[.agg #[.int .i64 len, .int .i64 offs, .slice A l.length c]] w fun e w' => ∃ v, e = .returned (.tuple #[v, .int .i64 (maskS len offs l).2]) ∧ OwI w' w.heap.size v (maskS len offs l).1 ∧ Bl w w' := by
  have hm := mixed
  obtain ⟨i0, hi, hz0, hz1, hz2⟩ := info_of info3
  have hC : ∀ W, Gr w W → _ := fun W h => sright len offs A c l W (hr.gr h) hc
  cases h1 : rightS len offs l with
  | false =>
    have hs : maskS len offs l = ([], 1) := by unfold maskS; rw [if_pos h1]
    rw [hs]
    rw [h1] at hC
    clear hr hs h1
    go_enter Try.func18, Try.ntmps18
    go_wp2_with (first | (go_at_call 48; (with_reducible refine (hC _ (by repeat (first | exact Gr.refl _ | with_reducible apply Gr.alloc | with_reducible apply Gr.grow | with_reducible apply Gr.drewN | with_reducible apply Gr.drew))).mono ?_); rintro e w' ⟨rfl, hg⟩; obtain ⟨n, os, rfl⟩ := hg.out; clear hg))
    exact bodyPost_ret (v := .tuple #[.slice none 0 0, .int .i64 1]) (by simp [results, Try.results18, go_sem]) rfl ⟨_, rfl, OwI.nil _ _, (by repeat (first | exact Bl.refl _ | with_reducible apply Bl.alloc | with_reducible apply Bl.grow | with_reducible apply Bl.sd | with_reducible apply Bl.drewN | with_reducible apply Bl.drew))⟩
  | true =>
    have hs : maskS len offs l = (maskF (List.replicate len.toNat (2 ^ offs.toNat - 1)) l, 0) := by unfold maskS; rw [if_neg (by rw [h1]; decide)]
    rw [hs]
    obtain ⟨⟨l0, l1⟩, ⟨o0, o1⟩, h512, hgood⟩ := right_ok h1
    obtain ⟨p0, p1⟩ := pow17z o1
    rw [h1] at hC
    have HR := Hd.mk hr
    have HGood := Hd.mk hgood
    clear hr hs h1 hgood
    generalize hfin : maskF (List.replicate len.toNat (2 ^ offs.toNat - 1)) l = fin
    have HFin := Hd.mk hfin
    clear hfin
    have hw1 : IntKind.i64.wrap (2 ^ offs.toNat) = 2 ^ offs.toNat := IntWalk.i64_in _ (by omega)
    have hw2 : IntKind.i64.wrap (2 ^ offs.toNat - 1) = 2 ^ offs.toNat - 1 := IntWalk.i64_in _ (by omega)
    have HP := Hd.mk (And.intro p0 p1)
    clear p0 p1
    go_enter Try.func18, Try.ntmps18
    go_upto_region 5 with (first | (go_at_call 48; (with_reducible refine (hC _ (by repeat (first | exact Gr.refl _ | with_reducible apply Gr.alloc | with_reducible apply Gr.grow | with_reducible apply Gr.drewN | with_reducible apply Gr.drew))).mono ?_); rintro e w' ⟨rfl, hg⟩; obtain ⟨n, os, rfl⟩ := hg.out; clear hg))
    generalize hW : Sort.grow _ _ = W
    have HWe := Hd.mk hW
    clear hW
    have b0 : W.cell? ⟨w.heap.size, 0, none⟩ = some (.int .i64 len) := by rw [← HWe.out]; go_simp
    have b1 : W.cell? ⟨w.heap.size, 1, none⟩ = some (.int .i64 offs) := by rw [← HWe.out]; go_simp
    have b2 : W.cell? ⟨w.heap.size, 2, none⟩ = some (.slice A l.length c) := by rw [← HWe.out]; go_simp
    have B0 : Bl w W := by rw [← HWe.out]; exact (by repeat (first | exact Bl.refl _ | with_reducible apply Bl.alloc | with_reducible apply Bl.grow | with_reducible apply Bl.sd | with_reducible apply Bl.drewN | with_reducible apply Bl.drew))
    have z0 := World.block_lt_of_cell? W _ b0
    dsimp only at z0
    have HB0 := Hd.mk B0
    have HR2 := Hd.mk (HR.out.bl B0)
    clear HWe B0 hC
    go_loopg [4, 12] len.toNat (fun gg s4 s12 wr => ∃ k : Nat, k ≤ len.toNat ∧ len.toNat - k ≤ gg ∧ s12 = .int .i64 k ∧ Hd (OwI wr W.heap.size s4 (List.replicate k (2 ^ offs.toNat - 1))) ∧ Hd (Bl W wr))
    case atStart => exact ⟨0, Nat.zero_le _, by omega, rfl, ⟨OwI.nil _ _⟩, ⟨Bl.refl _⟩⟩
    case round =>
      obtain ⟨k, hk, hg, rfl, HO, HB⟩ := hrel
      by_cases hlt : k < len.toNat
      · have hltz : (k : Int) < len := by omega
        have hbl := HB.out
        have o := fun (q : Nat) => Below.cell hbl (p := ⟨w.heap.size, q, none⟩) z0
        have d1 := (o 1).trans b1
        have zd := World.block_lt_of_cell? wr _ d1
        dsimp only at zd
        have hsz := hbl.size
        clear o hbl
        go_wp2_with (at_builtin; refine wpList_append_own_at _ rfl _ _ 36 rfl W.heap.size 3 i0 _ 1 8 Try.underlying36 hi hz0 hz1 hz2 rfl (by decide) _ _ _ rfl (own_below HO.out (by repeat (first | with_reducible exact Bl.refl _ | with_reducible apply Bl.alloc | with_reducible apply Bl.grow | with_reducible apply Bl.sd | with_reducible apply Bl.drewN | with_reducible apply Bl.drew))) ⟨wr.heap.size, 0, none⟩ 1 1 [.int .i64 (2 ^ offs.toNat - 1)] rfl rfl (news_alloc _ _ _ _ rfl) (by simp [Value.oneCell']) (by simp only [maxLen, List.length_replicate]; omega) (by simp only [List.length_replicate]; omega) (by simp [go_sem]; omega) ?_)
        intro v1 w1 hown1 hgr1 _ _
        have HO1 := Hd.mk hown1
        have HG1 := Hd.mk hgr1
        clear hown1 hgr1
        go_wp2
        go_roundg (len.toNat - (k + 1))
        case measure => omega
        case rel =>
          refine ⟨k + 1, by omega, by omega, by go_num, ⟨?_⟩, ⟨Bl.grown (HB.out.alloc _) HG1.out (fun q hq => (World.ownsRow.lt HO.out q hq).1)⟩⟩
          have h := HO1.out
          unfold OwI
          rw [List.replicate_succ', List.length_append, List.length_replicate]
          unfold iC at h ⊢
          rw [List.map_append]
          exact h
      · obtain rfl : k = len.toNat := by omega
        have hltz : ¬ ((len.toNat : Int) < len) := by omega
        have hK : (len.toNat : Int) = len := by omega
        have HK := Hd.mk hK
        have HO' := HO.out
        have hfl : (List.replicate len.toNat (2 ^ offs.toNat - 1 : Int)).length = len.toNat := List.length_replicate
        have hfb : ∀ j, j < (List.replicate len.toNat (2 ^ offs.toNat - 1 : Int)).length → 0 ≤ nth (List.replicate len.toNat (2 ^ offs.toNat - 1 : Int)) j ∧ nth (List.replicate len.toNat (2 ^ offs.toNat - 1 : Int)) j < 65536 := by
          intro j hj
          rw [nth_eq _ _ hj, List.getElem_replicate]
          have := HP.out
          omega
        generalize List.replicate len.toNat (2 ^ offs.toNat - 1 : Int) = f0 at *
        obtain ⟨g, cap, rfl, hgb, hgw, hcap, hcm, hfz, hcell⟩ := HO'.form (by omega)
        rw [hfl] at HO' ⊢
        have hbl := HB.out
        have o := fun (q : Nat) => Below.cell hbl (p := ⟨w.heap.size, q, none⟩) z0
        have d2 := (o 2).trans b2
        have zd := World.block_lt_of_cell? wr _ d2
        dsimp only at zd
        have hwg : w.heap.size ≤ g := by have := HB0.out.size; omega
        have HI := Hd.mk hfb
        have HOI := Hd.mk HO'
        have HBw := Hd.mk (HB0.out.trans HB.out)
        have HFl := Hd.mk hfl
        have hgb' := hgb
        clear o hbl hcell hfb HO' HO hfl hK
        go_upto_region 9 with fail
        go_loopg [6, 25] l.length (fun gg s6 s25 wq => ∃ (k : Nat) (f : List Int), k ≤ l.length ∧ l.length - k ≤ gg ∧ s25 = .int .i64 k ∧ Hd (f.length = len.toNat) ∧ Hd (OwI wq W.heap.size (.slice (some ⟨g, 0, none⟩) len.toNat cap) f) ∧
          Hd (∀ j, j < f.length → 0 ≤ nth f j ∧ nth f j < 65536) ∧ Hd (fin = maskF f (l.drop k)) ∧ Hd (Bl w wq ∧ g < wq.heap.size))
        case atStart => exact ⟨0, f0, Nat.zero_le _, by omega, rfl, HFl, HOI, HI, ⟨HFin.out.symm⟩, ⟨HBw.out, hgw⟩⟩
        case round =>
          obtain ⟨k, f, hk, hg, rfl, HFl2, HO2, HI2, HF2, HB2⟩ := hrel
          by_cases hlt : k < l.length
          · obtain ⟨b, off, rfl, hb, hcell⟩ := (HR.out.bl HB2.out.1).2 (by omega)
            obtain ⟨k0, k1, k2, k3, k4⟩ := hcell k hlt
            have hltz2 : (k : Int) < (l.length : Int) := by omega
            have hkz : (0 : Int) ≤ (k : Int) := by omega
            have hst := maskF_step (f := f) hlt
            obtain ⟨⟨q0, q1⟩, ⟨q2, q3⟩, _⟩ := bad_not (HGood.out k hlt)
            clear hcell
            generalize nth l k = x at *
            obtain ⟨x0, x1, x2, x3, x4⟩ := x
            dsimp only at *
            have hfl := HFl2.out
            have HO3 : OwI wr W.heap.size (.slice (some ⟨g, 0, none⟩) f.length cap) f := by rw [hfl]; exact HO2.out
            have fc : wr.cell? ⟨g, x0.toNat, none⟩ = some (.int .i64 (nth f x0.toNat)) := by
              rw [World.ownsRow.cellAt HO3 _ (by omega)]
              exact iC_at f _ (by omega)
            have ff : ∀ k, wr.frozen? ⟨g, k, none⟩ = false := fun k => World.ownsRow.frozenAt HO3 k
            obtain ⟨a0, a1⟩ := HI2.out x0.toNat (by omega)
            have hgq := HB2.out.2
            have hbits := bits_clear a0 a1 q2 (show x1 < 16 by omega)
            have hbd := clr_bd (k := x1) a0 a1
            have hHI : ∀ j, j < (f.set x0.toNat (clrS (nth f x0.toNat) x1)).length → 0 ≤ nth (f.set x0.toNat (clrS (nth f x0.toNat) x1)) j ∧ nth (f.set x0.toNat (clrS (nth f x0.toNat) x1)) j < 65536 := by
              intro j hj
              rw [nth_eq _ _ hj, List.getElem_set]
              split
              · exact hbd
              · rw [List.length_set] at hj
                rw [← nth_eq f j hj]
                exact HI2.out j hj
            have HHI := Hd.mk hHI
            have HSt := Hd.mk hst
            have hset := fun (x : Int) => OwI.set (i := x0.toNat) (x := x) HO3
            have hwx : IntKind.i64.wrap (2 ^ x1.toNat) = 2 ^ x1.toNat := by
              obtain ⟨_, h⟩ := pow17z (show x1 ≤ 16 by omega)
              exact IntWalk.i64_in _ (by omega)
            have q1' : x0 < (len.toNat : Int) := by omega
            have HSet := Hd.mk hset
            generalize clrS (nth f x0.toNat) x1 = y at *
            generalize nth f x0.toNat = a at *
            clear hst hHI hset hfl HO3
            have hlz : (len.toNat : Int) = len := by omega
            go_upto_region 11 with fail
            go_region
            go_wp2
            go_roundg (l.length - (k + 1))
            case measure => omega
            case rel =>
              refine ⟨k + 1, f.set x0.toNat y, by omega, by omega, by go_num, ⟨by rw [List.length_set]; exact HFl2.out⟩, ⟨?_⟩, HHI, ⟨by rw [HF2.out, HSt.out]⟩, ⟨?_, by simp [go_sem]; omega⟩⟩
              · have h := HSet.out y
                rw [HFl2.out] at h
                exact OwI.bl h (by repeat (first | with_reducible exact Bl.refl _ | with_reducible apply Bl.alloc | with_reducible apply Bl.grow | with_reducible apply Bl.sd | with_reducible apply Bl.drewN | with_reducible apply Bl.drew))
              · exact Bl.drew (Bl.alloc (Bl.setCell HB2.out.1 hwg) _)
          · obtain rfl : k = l.length := by omega
            have hltz2 : ¬ ((l.length : Int) < (l.length : Int)) := by omega
            have e := HF2.out
            rw [maskF_end] at e
            subst e
            go_wp2
            exact bodyPost_ret (v := .tuple #[.slice (some ⟨g, 0, none⟩) len.toNat cap, .int .i64 0]) (by simp [results, Try.results18, go_sem]) rfl ⟨_, rfl, OwI.lower HO2.out HB0.out.size, HB2.out.1⟩
end Go.Proofs.Ytcknakbjiklklaa.F
