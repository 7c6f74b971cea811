import Derived.Test.YtlifpafnkagofaaF27
import Derived.Test.YtlifpafnkagofaaF24
/- hopmeshref23.Forget. -/
namespace Go.Proofs.Ytlifpafnkagofaa.F
open Go.RowKit Go.Sort Go.Proofs.Ytlifpafnkagofaa.B Go.Proofs.Ytlifpafnkagofaa.S
set_option linter.unusedVariables false
set_option linter.unusedSimpArgs false
set_option maxHeartbeats 4000000 in
theorem xforget (A : Option Addr) (c : Nat) (l : List Nb) (slot age : Int) (w : World) (hr : Rd w A l) (hc : l.length ≤ c) (hs : slot ≤ 9223372036854775807) :
    Calls Try.prog 38 #[.slice A l.length c, .int .i64 slot, .int .i64 age] w fun e w' => ∃ v, e = .returned v ∧ Hand w' v (forgetS l slot age) ∧ Bl w w' := by
  obtain ⟨i0, hi, hz0, hz1, hz2⟩ := info_of infoE
  have hC : ∀ W, Bl w W → _ := fun W h => qcheck A c l W (hr.bl h) hc
  have HR := Hd.mk hr
  by_cases h1 : checkL l = 0 ∧ 0 ≤ slot ∧ 0 ≤ age
  · obtain ⟨h1, h2, h3⟩ := h1
    obtain ⟨h32, hok, hso⟩ := checkL_ok h1
    have hf : forgetS l slot age = l.filter fun x => !oldN slot age x := by
      unfold forgetS
      rw [if_neg (by omega)]
    rw [hf]
    rw [h1] at hC
    have HK := Hd.mk hok
    clear hr h1 hok hso hf
    go_enter Try.func38, Try.ntmps38
    go_wp2_with (first | (go_at_call 28; (with_reducible refine (hC _ (by repeat (first | exact Bl.refl _ | with_reducible apply Bl.alloc | with_reducible apply Bl.grow | with_reducible apply Bl.sd | with_reducible apply Bl.drewN | with_reducible apply Bl.drew))).mono ?_); rintro e w' ⟨rfl, hg⟩; obtain ⟨n, os, rfl⟩ := hg.out; clear hg))
    go_loopg [7, 8] l.length (fun gg s7 s8 wr => ∃ k : Nat, k ≤ l.length ∧ l.length - k ≤ gg ∧ s8 = .int .i64 k ∧ Hd (Ow wr w.heap.size s7 ((l.take k).filter fun x => !oldN slot age x)) ∧ Hd (Bl w wr))
    case atStart => exact ⟨0, Nat.zero_le _, by omega, rfl, ⟨Ow.nil _ _⟩, ⟨(by repeat (first | exact Bl.refl _ | with_reducible apply Bl.alloc | with_reducible apply Bl.grow | with_reducible apply Bl.sd | with_reducible apply Bl.drewN | with_reducible apply Bl.drew))⟩⟩
    case round =>
      obtain ⟨k, hk, hg, rfl, HO, HB⟩ := hrel
      obtain ⟨d, os, rfl⟩ := HB.out.out
      have hcur : ((l.take k).filter fun x => !oldN slot age x).length ≤ 40 := by
        have h1 : ((l.take k).filter fun x => !oldN slot age x).length ≤ (l.take k).length := List.length_filter_le _ _
        rw [List.length_take] at h1
        omega
      have HCur := Hd.mk hcur
      clear hcur
      by_cases hlt : k < l.length
      · obtain ⟨b, off, rfl, hb, hcell⟩ := HR.out.2 (by omega)
        obtain ⟨k0, k1, k2, k3, k4, k5⟩ := hcell k hlt
        have hltz : (k : Int) < (l.length : Int) := by omega
        have hkz : (0 : Int) ≤ (k : Int) := by omega
        have hsn := forget_snoc slot age l k hlt
        have hok := (okN_iff _).1 (HK.out k hlt)
        clear hcell
        generalize hx : nth l k = x at *
        obtain ⟨x0, x1, x2, x3, ⟨x4, x5⟩⟩ := x
        clear hx
        have HSn := Hd.mk hsn
        clear hsn
        dsimp only at *
        have hw1 : IntKind.i64.wrap (slot - x3) = slot - x3 := IntWalk.i64_in _ (by omega)
        have hold : oldN slot age ⟨x0, x1, x2, x3, ⟨x4, x5⟩⟩ = decide (slot - x3 ≥ age) := rfl
        have HOld := Hd.mk hold
        clear hold
        have hx3 := hok.2.2.2.1
        clear hok
        by_cases hlo : slot - x3 < age
        · go_wp2_with (first | (at_builtin; (refine wpList_append_own_at _ rfl _ _ 22 rfl w.heap.size 41 i0 _ 6 48 Try.underlying22 hi hz0 hz1 hz2 rfl (by decide) _ _ _ rfl (own_below HO.out (by repeat (first | exact Bl.refl _ | with_reducible apply Bl.alloc | with_reducible apply Bl.grow | with_reducible apply Bl.sd | with_reducible apply Bl.drewN | with_reducible apply Bl.drew))) _ _ _ (nbC ⟨x0, x1, x2, x3, ⟨x4, x5⟩⟩) rfl rfl (news_alloc _ #[.int .i64 x0, .int .i64 x1, .int .i64 x2, .int .i64 x3, .int .i64 x4, .int .i64 x5] 41 _ (by simp [go_sem])) (by simp [nbC, Value.oneCell']) (by have := HCur.out; simp only [maxLen]; omega) (by have := HCur.out; omega) (by simp [go_sem] <;> omega) ?_); intro v1 w1 hown1 hgr1 _ _; have HOw := Hd.mk hown1; have HGr := Hd.mk hgr1; clear hown1 hgr1))
          go_roundg (l.length - (k + 1))
          case measure => omega
          case rel =>
            refine ⟨k + 1, by omega, by omega, by go_num, ⟨?_⟩, ⟨Bl.grown (by repeat (first | exact Bl.refl _ | with_reducible apply Bl.alloc | with_reducible apply Bl.grow | with_reducible apply Bl.sd | with_reducible apply Bl.drewN | with_reducible apply Bl.drew)) HGr.out (fun q hq => by have := (World.ownsRow.lt HO.out q hq).1; simpa using this)⟩⟩
            have := HOw.out
            unfold Ow
            rw [HSn.out, HOld.out, if_neg (by simp; omega), nbsC_append, List.length_append]
            simpa [nbsC] using this
        · go_wp2
          go_roundg (l.length - (k + 1))
          case measure => omega
          case rel =>
            refine ⟨k + 1, by omega, by omega, by go_num, ⟨?_⟩, ⟨(by repeat (first | exact Bl.refl _ | with_reducible apply Bl.alloc | with_reducible apply Bl.grow | with_reducible apply Bl.sd | with_reducible apply Bl.drewN | with_reducible apply Bl.drew))⟩⟩
            rw [HSn.out, HOld.out, if_pos (by simp; omega), List.append_nil]
            exact HO.out
      · obtain rfl : k = l.length := by omega
        have hltz : ¬ ((l.length : Int) < (l.length : Int)) := by omega
        go_wp2
        have hfin := HO.out.rd
        rw [List.take_of_length_le (Nat.le_refl _)] at hfin
        have HFin := Hd.mk hfin
        go_ret
        exact ⟨_, rfl, HFin.out, (by repeat (first | exact Bl.refl _ | with_reducible apply Bl.alloc | with_reducible apply Bl.grow | with_reducible apply Bl.sd | with_reducible apply Bl.drewN | with_reducible apply Bl.drew))⟩
  · have hf : forgetS l slot age = l := by
      unfold forgetS
      rw [if_pos (by omega)]
    rw [hf]
    clear hr hf
    by_cases k1 : checkL l = 0
    · have hsa : slot < 0 ∨ age < 0 := by omega
      rw [k1] at hC
      clear k1 h1
      rcases hsa with hsa | hsa
      · go_enter Try.func38, Try.ntmps38
        go_wp2_with (first | (go_at_call 28; (with_reducible refine (hC _ (by repeat (first | exact Bl.refl _ | with_reducible apply Bl.alloc | with_reducible apply Bl.grow | with_reducible apply Bl.sd | with_reducible apply Bl.drewN | with_reducible apply Bl.drew))).mono ?_); rintro e w' ⟨rfl, hg⟩; obtain ⟨n, os, rfl⟩ := hg.out; clear hg))
        go_ret
        exact ⟨_, rfl, ⟨A, c, rfl, hc, HR.out.bl (by repeat (first | exact Bl.refl _ | with_reducible apply Bl.alloc | with_reducible apply Bl.grow | with_reducible apply Bl.sd | with_reducible apply Bl.drewN | with_reducible apply Bl.drew))⟩, (by repeat (first | exact Bl.refl _ | with_reducible apply Bl.alloc | with_reducible apply Bl.grow | with_reducible apply Bl.sd | with_reducible apply Bl.drewN | with_reducible apply Bl.drew))⟩
      · by_cases h0 : slot < 0
        all_goals
          go_enter Try.func38, Try.ntmps38
          go_wp2_with (first | (go_at_call 28; (with_reducible refine (hC _ (by repeat (first | exact Bl.refl _ | with_reducible apply Bl.alloc | with_reducible apply Bl.grow | with_reducible apply Bl.sd | with_reducible apply Bl.drewN | with_reducible apply Bl.drew))).mono ?_); rintro e w' ⟨rfl, hg⟩; obtain ⟨n, os, rfl⟩ := hg.out; clear hg))
          go_ret
          exact ⟨_, rfl, ⟨A, c, rfl, hc, HR.out.bl (by repeat (first | exact Bl.refl _ | with_reducible apply Bl.alloc | with_reducible apply Bl.grow | with_reducible apply Bl.sd | with_reducible apply Bl.drewN | with_reducible apply Bl.drew))⟩, (by repeat (first | exact Bl.refl _ | with_reducible apply Bl.alloc | with_reducible apply Bl.grow | with_reducible apply Bl.sd | with_reducible apply Bl.drewN | with_reducible apply Bl.drew))⟩
    · go_enter Try.func38, Try.ntmps38
      go_wp2_with (first | (go_at_call 28; (with_reducible refine (hC _ (by repeat (first | exact Bl.refl _ | with_reducible apply Bl.alloc | with_reducible apply Bl.grow | with_reducible apply Bl.sd | with_reducible apply Bl.drewN | with_reducible apply Bl.drew))).mono ?_); rintro e w' ⟨rfl, hg⟩; obtain ⟨n, os, rfl⟩ := hg.out; clear hg))
      all_goals
        go_ret
        exact ⟨_, rfl, ⟨A, c, rfl, hc, HR.out.bl (by repeat (first | exact Bl.refl _ | with_reducible apply Bl.alloc | with_reducible apply Bl.grow | with_reducible apply Bl.sd | with_reducible apply Bl.drewN | with_reducible apply Bl.drew))⟩, (by repeat (first | exact Bl.refl _ | with_reducible apply Bl.alloc | with_reducible apply Bl.grow | with_reducible apply Bl.sd | with_reducible apply Bl.drewN | with_reducible apply Bl.drew))⟩
end Go.Proofs.Ytlifpafnkagofaa.F
