import Derived.Test.YtcknakbjiklklaaF33
import Derived.Test.YtcknakbjiklklaaF22
import Derived.Test.YtcknakbjiklklaaF21
import Derived.StillTailTactics
/- slices.Index and slices.Delete; celltable.Remove. -/
namespace Go.Proofs.Ytcknakbjiklklaa.F
open Go.RowKit Go.Sort Go.Proofs.Ytcknakbjiklklaa.B Go.Proofs.Ytcknakbjiklklaa.S
set_option linter.unusedVariables false
set_option linter.unusedSimpArgs false
set_option maxHeartbeats 4000000 in
theorem tindex (A : Option Addr) (c : Nat) (l : List TC) (x : TC) (w : World) (hr : Rd w A l) (hc : l.length ≤ c) :
    Calls Try.prog 70 #[.slice A l.length c, vT x] w fun e w' => e = .returned (.int .i64 (idxF (tcEq x) l 0)) ∧ Gr w w' := by
  have hm := mixed
  have hg43 := guard43
  have hl := hr.1
  have HR := Hd.mk hr
  clear hr
  obtain ⟨y0, y1, y2, y3, y4, y5⟩ := x
  simp only [vT]
  generalize hres : idxF (tcEq ⟨y0, y1, y2, y3, y4, y5⟩) l 0 = res
  have HRes := Hd.mk hres
  clear hres
  go_enter Try.func70, Try.ntmps70
  go_upto_region 2 with fail
  generalize hW : World.alloc _ _ = W
  have HWe := Hd.mk hW
  clear hW
  have t1 : T6 W w.heap.size ⟨y0, y1, y2, y3, y4, y5⟩ := ⟨by rw [← HWe.out]; simp [go_sem], by rw [← HWe.out]; go_simp, by rw [← HWe.out]; go_simp, by rw [← HWe.out]; go_simp, by rw [← HWe.out]; go_simp, by rw [← HWe.out]; go_simp, by rw [← HWe.out]; go_simp⟩
  have G0 : Gr w W := by rw [← HWe.out]; exact (by repeat (first | exact Gr.refl _ | with_reducible apply Gr.alloc | with_reducible apply Gr.grow | with_reducible apply Gr.drewN | with_reducible apply Gr.drew))
  have HG := Hd.mk G0
  have H1 := Hd.mk t1
  have HR2 := Hd.mk (HR.out.gr G0)
  clear HWe G0 t1 HR
  go_loopg [5, 8] l.length (fun gg s5 s8 wr => ∃ k : Nat, k ≤ l.length ∧ l.length - k ≤ gg ∧ s8 = .int .i64 k ∧ Hd (Gr W wr) ∧ Hd (res = idxF (tcEq ⟨y0, y1, y2, y3, y4, y5⟩) (l.drop k) k))
  case atStart => exact ⟨0, Nat.zero_le _, by omega, rfl, ⟨Gr.refl _⟩, ⟨HRes.out.symm⟩⟩
  case round =>
    obtain ⟨k, hk, hg, rfl, GW, CF⟩ := hrel
    by_cases hlt : k < l.length
    · obtain ⟨b, off, rfl, hb, hcell⟩ := (HR2.out.gr GW.out).2 (by omega)
      obtain ⟨k0, k1, k2, k3, k4, k5⟩ := hcell k hlt
      obtain ⟨zz, e0, e1, e2, e3, e4, e5⟩ := H1.out.bl GW.out.bl
      dsimp only at e0 e1 e2 e3 e4 e5
      have hltz : (k : Int) < (l.length : Int) := by omega
      have hkz : (0 : Int) ≤ (k : Int) := by omega
      have hyes := idxF_yes (p := tcEq ⟨y0, y1, y2, y3, y4, y5⟩) hlt
      have hno := idxF_no (p := tcEq ⟨y0, y1, y2, y3, y4, y5⟩) hlt
      clear hcell
      generalize hx : nth l k = x at *
      obtain ⟨x0, x1, x2, x3, x4, x5⟩ := x
      dsimp only at *
      clear hx
      have HYes := Hd.mk hyes
      have HNo := Hd.mk hno
      clear hyes hno
      have heq := fun W => eqt y0 x0 y1 x1 y2 x2 y3 x3 y4 x4 y5 x5 W
      generalize tcEq ⟨y0, y1, y2, y3, y4, y5⟩ ⟨x0, x1, x2, x3, x4, x5⟩ = q at *
      cases q with
      | true =>
        go_upto_region 4 with fail
        go_quiet (fail)
        go_wp2
        go_ret
        exact ⟨ret_i (by rw [CF.out, HYes.out (by first | trivial | rfl)]), HG.out.trans (GW.out.trans (by repeat (first | exact Gr.refl _ | with_reducible apply Gr.alloc | with_reducible apply Gr.grow | with_reducible apply Gr.drewN | with_reducible apply Gr.drew)))⟩
      | false =>
        go_upto_region 4 with fail
        go_quiet (fail)
        go_wp2
        go_roundg (l.length - (k + 1))
        case measure => omega
        case rel => exact ⟨k + 1, by omega, by omega, by go_num, ⟨GW.out.trans (by repeat (first | exact Gr.refl _ | with_reducible apply Gr.alloc | with_reducible apply Gr.grow | with_reducible apply Gr.drewN | with_reducible apply Gr.drew))⟩, ⟨by rw [CF.out, HNo.out (by first | trivial | rfl)]⟩⟩
    · obtain rfl : k = l.length := by omega
      have hltz : ¬ ((l.length : Int) < (l.length : Int)) := by omega
      go_wp2
      go_ret
      exact ⟨ret_i (by rw [CF.out, idxF_end]), HG.out.trans (GW.out.trans (by repeat (first | exact Gr.refl _ | with_reducible apply Gr.alloc | with_reducible apply Gr.grow | with_reducible apply Gr.drewN | with_reducible apply Gr.drew)))⟩
theorem wpList_app_runD {P : Program} (w : World) {ops : Array Oper} {rest : List Oper} {o : Oper} {a : Act} {Q : Exit → Act → World → Prop} (hgd : o.guard = none) (d x : Operand) (t : TypeId)
    (ho : o.op = .call { callee := .builtin .append, args := #[d, x], argTypes := #[t, t] }) (v u : Value) (hd : a.eval d = v) (hx : a.eval x = u) {v' : Value} {w' : World}
    (hr : (Builtin.append_ #[t, t] o.type #[v, u]).run P w = .ok v' w') (h : wpList P ops Q rest (a.put o.dst v') w') : wpList P ops Q (o :: rest) a w := by
  refine wpList_plain hgd fun K hK => ?_
  unfold Oper.wp execOp
  simp only [ho, resolve, invoke, builtin, Sem.run_bind, Sem.run_pure, Result.andThen_ok, List.map_toArray, List.map_cons, List.map_nil, hd, hx, hr]
  exact hK _ _ h
theorem step_app_runI {P : Program} {ops : Array Oper} {o : Oper} {a : Act} {w : World} {K : Act → World → Prop} {Q : Exit → Act → World → Prop} {E : Prop}
    (hg : o.guard = none) (d x : Operand) (t : TypeId) (hop : o.op = Op.call { callee := Callee.builtin Builtin.append, args := #[d, x], argTypes := #[t, t] })
    (v u : Value) (hd : a.eval d = v) (hx : a.eval x = u) {v' : Value} {w' : World} (hr : (Builtin.append_ #[t, t] o.type #[v, u]).run P w = .ok v' w') (hK : K (a.put o.dst v') w') :
    if Region.wanted o (yielded ops a.tmps) = true then Oper.wp P o a w K Q else E := by
  have hw : Region.wanted o (yielded ops a.tmps) = true := by simp [Region.wanted, hg]
  rw [if_pos hw]
  unfold Oper.wp
  simp [execOp, hop, resolve, invoke, builtin, hd, hx, hr, Result.andThen]
  exact hK
theorem Ow.pre {w : World} {base g cap : Nat} {l : List TC} (h : Ow w base (.slice (some ⟨g, 0, none⟩) l.length cap) l) {i : Nat} (hi : i ≤ l.length) : w.ownsRow base 43 6 (.slice (some ⟨g, 0, none⟩) i cap) i (tcsC (l.take i)) := by
  rcases h.2 with ⟨e, _⟩ | ⟨g1, cap1, cur, e, hg1, hh, hnc, hmx, hcs, htk⟩
  · simp at e
  · simp only [Value.slice.injEq, Option.some.injEq, Addr.mk.injEq, and_true, true_and] at e
    obtain ⟨rfl, rfl⟩ := e
    refine ⟨by rw [tcsC_len, List.length_take, Nat.min_eq_left hi], .inr ⟨g, cap, cur, rfl, hg1, hh, by omega, hmx, hcs, ?_⟩⟩
    rw [← tcsC_take, ← htk, List.take_take]
    congr 1
    omega
theorem del_clear (w3 : World) (base g cap M : Nat) (l2 : List TC) (h : Ow w3 base (.slice (some ⟨g, 0, none⟩) M cap) l2) (hl : l2.length = M) (hM : M < cap) :
    ∃ w4, (∀ ty, (Builtin.clear_ #[22] ty #[.slice (some ⟨g, M * 6, none⟩) 1 (cap - M)]).run Try.prog w3 = .ok (.tuple #[]) w4) ∧ Ow w4 base (.slice (some ⟨g, 0, none⟩) M cap) l2 ∧ ∀ w, Bb base w w3 → Bb base w w4 := by
  rcases h.2 with ⟨e, _⟩ | ⟨g1, cap1, cur, e, hg1, hh, hnc, hmx, hcs, htk⟩
  · simp at e
  · simp only [Value.slice.injEq, Option.some.injEq, Addr.mk.injEq, and_true, true_and] at e
    obtain ⟨rfl, _, rfl⟩ := e
    have h6 : (M + 1) * 6 ≤ cap * 6 := Nat.mul_le_mul_right 6 hM
    obtain ⟨zs, hzl, hcl⟩ := run_clear_k w3 g (M * 6) 1 (cap - M) cur (by omega) hh (by omega)
    refine ⟨_, hcl, ?_, fun w hb => hb.row (cs := _) hg1⟩
    unfold Ow
    rw [hl] at htk ⊢
    refine ownsRow_of hg1 (setRow_heap w3 g cur _ 43 _ hh) (by omega) hmx ?_ ?_
    · simp only [List.length_append, List.length_take, List.length_drop, hzl, Array.length_toList, hcs]
      omega
    · have hti : (cur.toList.take (M * 6)).length = M * 6 := by simp only [List.length_take, Array.length_toList, hcs]; omega
      rw [List.append_assoc, List.take_append_of_le_length (by omega), List.take_of_length_le (by omega)]
      exact htk
set_option maxHeartbeats 4000000 in
set_option maxRecDepth 100000 in
theorem tdelete (base : Nat) (v : Value) (l : List TC) (i : Nat) (w : World) (hown : Ow w base v l) (hn : l.length ≤ 1000000) (hb : base ≤ w.heap.size) (hi : i < l.length) :
    Calls Try.prog 71 #[v, .int .i64 i, .int .i64 (i + 1)] w fun e w' => ∃ v', e = .returned v' ∧ Ow w' base v' (l.take i ++ l.drop (i + 1)) ∧ Bb base w w' := by
  have hm := mixed
  obtain ⟨i0, hi0, hz0, hz1, hz2⟩ := info_of infoE
  obtain ⟨g, cap, rfl, hgb, hgw, hcap, hcm, hfz, _⟩ := hown.form hi
  have hcl : ∀ j u, (tcsC (l.drop (i + 1)))[j]? = some u → w.drew.cell? ((⟨g, (i + 1) * 6, none⟩ : Addr).add j) = some u := by
    intro j u hj
    have hlt := (List.getElem?_eq_some_iff.1 hj).1
    rw [tcsC_len, List.length_drop] at hlt
    rw [← tcsC_drop, List.getElem?_drop] at hj
    show w.cell? _ = _
    rw [Addr.add_lit, World.ownsRow.cellAt hown _ (by omega)]
    exact hj
  have hpre := (Ow.pre hown (Nat.le_of_lt hi))
  have hw0 : Bb base w w := ⟨Below.refl _ _, hb⟩
  have HO := Hd.mk hown
  have HCl := Hd.mk hcl
  have HPre := Hd.mk hpre
  clear hown hcl hpre
  generalize hN : l.length = N at *
  have HN := Hd.mk hN
  clear hN
  have hiz : (i : Int) < (N : Int) := by omega
  have hiz0 : (0 : Int) ≤ (i : Int) := by omega
  have hiz1 : (i : Int) + 1 ≤ (N : Int) := by omega
  have hne : ((i : Int) == (i : Int) + 1) = false := by simp; omega
  have hcz : (N : Int) ≤ (cap : Int) := by omega
  have hpre2 : w.drew.ownsRow base 43 6 (.slice (some ⟨g, 0, none⟩) i cap) i (tcsC (l.take i)) := own_below HPre.out ((Bl.refl w).drew)
  have key : ∀ (off : Nat), (cap = i + 1 ∨ off = (i + 1) * 6) → ∃ w3, (Builtin.append_ #[22, 22] 22 #[.slice (some ⟨g, 0, none⟩) i cap, .slice (some ⟨g, off, none⟩) (N - (i + 1)) (cap - (i + 1))]).run Try.prog w.drew = .ok (.slice (some ⟨g, 0, none⟩) (N - 1) cap) w3 ∧
      Ow w3 base (.slice (some ⟨g, 0, none⟩) (N - 1) cap) (l.take i ++ l.drop (i + 1)) ∧ Bb base w w3 := by
    intro off hoff
    have hlen : (l.take i ++ l.drop (i + 1)).length = N - 1 := by rw [List.length_append, List.length_take, List.length_drop, HN.out]; omega
    obtain ⟨w3, h1, h2, h3⟩ := run_append_fits (P := Try.prog) w.drew base 22 22 43 i0 6 Try.underlying22 hi0 hz1 g i cap _ hpre2 ⟨g, off, none⟩ (N - (i + 1)) (cap - (i + 1)) (tcsC (l.drop (i + 1)))
      (by rw [tcsC_len, List.length_drop, HN.out]) (by
        rcases hoff with e | rfl
        · intro j u hj
          have hlt := (List.getElem?_eq_some_iff.1 hj).1
          rw [tcsC_len, List.length_drop, HN.out] at hlt
          omega
        · exact HCl.out) (tcsC_one _) (by omega)
    rw [show i + (N - (i + 1)) = N - 1 by omega] at h1 h2
    refine ⟨w3, h1, ?_, ⟨Below.grown (B := base) (hw0.bl ((Bl.refl w).drew)).1 h3 hb (fun k hk => by injection hk with hk; omega), Nat.le_trans hb h3.size⟩⟩
    unfold Ow
    rw [hlen, tcsC_append]
    exact h2
  have Key := Hd.mk key
  clear key hpre2
  by_cases hce : cap = i + 1
  · obtain ⟨w3, hrun, how, hbb⟩ := Key.out 0 (.inl hce)
    have HRun := Hd.mk hrun
    have HO3 := Hd.mk how
    have HB3 := Hd.mk hbb
    clear hrun how hbb Key
    obtain rfl : N = i + 1 := by omega
    subst hce
    rw [Nat.sub_self, Nat.add_sub_cancel] at HRun
    rw [Nat.add_sub_cancel] at HO3
    have hle1 : (i : Int) ≤ (i : Int) + 1 := by omega
    have hp0 : (0 : Int) ≤ (i : Int) + 1 := by omega
    go_enter Try.func71, Try.ntmps71
    go_upto_region 5 with fail
    go_region_law_o (refine step_app_runI rfl _ _ 22 rfl _ _ (by simp [Act.eval, Act.put]) (by simp [Act.eval, Act.put]) HRun.out ?_)
    obtain ⟨w4, hc4, ho4, hb4⟩ := del_clear w3 base g (i + 1) i _ HO3.out (by rw [List.length_append, List.length_take, List.length_drop, HN.out]; omega) (by omega)
    have HC4 := Hd.mk hc4
    have HO4 := Hd.mk ho4
    have HB4 := Hd.mk (hb4 _ HB3.out)
    clear hc4 ho4 hb4 HO3 HB3
    rw [show i + 1 - i = 1 by omega] at HC4
    go_wp2_with (refine wpList_clear_run _ (o := ⟨none, _, _, _, _, _⟩) rfl (.tmp 31) 22 rfl _ rfl (HC4.out _) ?_)
    go_ret
    exact ⟨_, rfl, HO4.out, HB4.out⟩
  · obtain ⟨w3, hrun, how, hbb⟩ := Key.out _ (.inr rfl)
    have HRun := Hd.mk hrun
    have HO3 := Hd.mk how
    have HB3 := Hd.mk hbb
    clear hrun how hbb Key
    have hle1 : i ≤ cap := by omega
    have hle2 : i + 1 ≤ cap := by omega
    have hle3 : i + 1 ≤ N := by omega
    have hle4 : (i : Int) ≤ (i : Int) + 1 := by omega
    have hp0 : (0 : Int) ≤ (i : Int) + 1 := by omega
    obtain ⟨M, rfl⟩ : ∃ M, N = M + 1 := ⟨N - 1, by omega⟩
    rw [Nat.add_sub_cancel, Nat.add_sub_add_right] at HRun
    rw [Nat.add_sub_cancel] at HO3
    have hiM : i ≤ M := by omega
    go_enter Try.func71, Try.ntmps71
    go_upto_region 5 with fail
    go_region_law_o (refine step_app_runI rfl _ _ 22 rfl _ _ (by simp [Act.eval, Act.put]) (by simp [Act.eval, Act.put]) HRun.out ?_)
    obtain ⟨w4, hc4, ho4, hb4⟩ := del_clear w3 base g cap M _ HO3.out (by rw [List.length_append, List.length_take, List.length_drop, HN.out]; omega) (by omega)
    have HC4 := Hd.mk hc4
    have HO4 := Hd.mk ho4
    have HB4 := Hd.mk (hb4 _ HB3.out)
    clear hc4 ho4 hb4 HO3 HB3
    have hMc : M ≤ cap := by omega
    have hMc1 : M + 1 ≤ cap := by omega
    have hMc2 : ¬ cap = M := by omega
    have hMz : (M : Int) ≤ (M : Int) + 1 := by omega
    have hMz0 : (0 : Int) ≤ (M : Int) := by omega
    go_wp2_with (refine wpList_clear_run _ (o := ⟨none, _, _, _, _, _⟩) rfl (.tmp 31) 22 rfl _ rfl (HC4.out _) ?_)
    go_ret
    exact ⟨_, rfl, HO4.out, HB4.out⟩
end Go.Proofs.Ytcknakbjiklklaa.F
