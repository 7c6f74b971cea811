import Derived.Test.YtcknakbjiklklaaF29
/- hopmeshref16.Put. -/
namespace Go.Proofs.Ytcknakbjiklklaa.F
open Go.RowKit Go.Sort Go.Proofs.Ytcknakbjiklklaa.B Go.Proofs.Ytcknakbjiklklaa.S
set_option linter.unusedVariables false
set_option linter.unusedSimpArgs false
theorem wpList_app_run {P : Program} (w : World) {ops : Array Oper} {rest : List Oper} {o : Oper} {a : Act} {Q : Exit → Act → World → Prop} (hgd : o.guard = none) (d x : Operand) (t : TypeId)
    (ho : o.op = .call { callee := .builtin .append, args := #[d, x], argTypes := #[t, t] }) (v u : Value) (hd : a.eval d = v) (hx : a.eval x = u) {v' : Value} {w' : World}
    (hr : (Builtin.append_ #[t, t] o.type #[v, u]).run P w = .ok v' w') (h : wpList P ops Q rest (a.put o.dst v') w') : wpList P ops Q (o :: rest) a w := by
  refine wpList_plain hgd fun K hK => ?_
  unfold Oper.wp execOp
  simp only [ho, resolve, invoke, builtin, Sem.run_bind, Sem.run_pure, Result.andThen_ok, List.map_toArray, List.map_cons, List.map_nil, hd, hx, hr]
  exact hK _ _ h
theorem run_append_zero (w : World) (base : Nat) (v : Value) (n : Nat) (xs : List Value) (hown : w.ownsRow base 43 6 v n xs) (A : Option Addr) (c : Nat) (ty : TypeId) : (Builtin.append_ #[22, 22] ty #[v, .slice A 0 c]).run Try.prog w = .ok v w := by
  obtain ⟨i0, hi, hz0, hz1, hz2⟩ := info_of infoE
  rcases hown.2 with ⟨rfl, rfl⟩ | ⟨g, cap, cur, rfl, _, _, hnc, _⟩
  · cases A <;> simp [Builtin.append_, run_underlying Try.underlying22, sizeOf, typeInfo, hi, Builtin.lenOf, Builtin.firstCells, hz1, loadCells, loadCellsFrom, storeCells]
  · cases A <;> simp [Builtin.append_, run_underlying Try.underlying22, sizeOf, typeInfo, hi, Builtin.lenOf, Builtin.firstCells, hnc, hz1, loadCells, loadCellsFrom, storeCells]
set_option maxHeartbeats 4000000 in
set_option maxRecDepth 100000 in
theorem qput (A : Option Addr) (c : Nat) (l : List TC) (x : TC) (w : World) (hr : Rd w A l) (hc : l.length ≤ c) (hs : sortedT l) (h512 : l.length ≤ 600) :
    Calls Try.prog 53 #[.slice A l.length c, vT x] w fun e w' => ∃ v, e = .returned v ∧ Ow w' w.heap.size v (insT l x) ∧ Bl w w' := by
  obtain ⟨i0, hi, hz0, hz1, hz2⟩ := info_of infoE
  have hm := mixed
  have HR := Hd.mk hr
  have HS := Hd.mk hs
  clear hr hs
  obtain ⟨t0, t1, t2, t3, t4, t5⟩ := x
  simp only [vT]
  generalize hfin : insT l ⟨t0, t1, t2, t3, t4, t5⟩ = fin
  have HFin := Hd.mk hfin
  clear hfin
  go_enter Try.func53, Try.ntmps53
  go_upto_region 3 with fail
  generalize hW : World.alloc _ _ = W
  have HWe := Hd.mk hW
  clear hW
  have b0 : W.cell? ⟨w.heap.size, 0, none⟩ = some (.int .i64 t0) := by rw [← HWe.out]; go_simp
  have b1 : W.cell? ⟨w.heap.size, 1, none⟩ = some (.int .i64 t1) := by rw [← HWe.out]; go_simp
  have b2 : W.cell? ⟨w.heap.size, 2, none⟩ = some (.int .i64 t2) := by rw [← HWe.out]; go_simp
  have b3 : W.cell? ⟨w.heap.size, 3, none⟩ = some (.bool t3) := by rw [← HWe.out]; go_simp
  have b4 : W.cell? ⟨w.heap.size, 4, none⟩ = some (.int .i64 t4) := by rw [← HWe.out]; go_simp
  have b5 : W.cell? ⟨w.heap.size, 5, none⟩ = some (.int .i64 t5) := by rw [← HWe.out]; go_simp
  have B0 : Bl w W := by rw [← HWe.out]; exact (by repeat (first | exact Bl.refl _ | with_reducible apply Bl.alloc | with_reducible apply Bl.grow | with_reducible apply Bl.sd | with_reducible apply Bl.drewN | with_reducible apply Bl.drew))
  have z0 := World.block_lt_of_cell? W _ b0
  dsimp only at z0
  have HB0 := Hd.mk B0
  have hws := B0.size
  have HR2 := Hd.mk (HR.out.bl B0)
  have hl := HR.out.1
  clear HWe B0 HR
  go_loopg [5, 6] l.length (fun gg s5 s6 wr => ∃ k : Nat, k ≤ l.length ∧ l.length - k ≤ gg ∧ s6 = .int .i64 k ∧ Hd (Ow wr W.heap.size s5 (l.take k)) ∧ Hd (Bl W wr) ∧ Hd (∀ j, j < k → lessT (nth l j) ⟨t0, t1, t2, t3, t4, t5⟩))
  case atStart => exact ⟨0, Nat.zero_le _, by omega, rfl, ⟨Ow.nil _ _⟩, ⟨Bl.refl _⟩, ⟨fun j hj => absurd hj (Nat.not_lt_zero _)⟩⟩
  case round =>
    obtain ⟨k, hk, hg, rfl, HO, HB, HL⟩ := hrel
    have hbl := HB.out
    have o := fun (q : Nat) => Below.cell hbl (p := ⟨w.heap.size, q, none⟩) z0
    have d0 := (o 0).trans b0
    have d1 := (o 1).trans b1
    have d2 := (o 2).trans b2
    have d3 := (o 3).trans b3
    have d4 := (o 4).trans b4
    have d5 := (o 5).trans b5
    have zd : w.heap.size < wr.heap.size := World.block_lt_of_cell? wr _ d0
    have hsz := hbl.size
    clear o hbl
    by_cases hlt : k < l.length
    · obtain ⟨b, off, rfl, hb, hcell⟩ := (HR2.out.bl HB.out).2 (by omega)
      obtain ⟨k0, k1, k2, k3, k4, k5⟩ := hcell k hlt
      have hltz : (k : Int) < (l.length : Int) := by omega
      have hkz : (0 : Int) ≤ (k : Int) := by omega
      have hd8 : decide ((k : Int) < (l.length : Int)) = true := decide_eq_true hltz
      have htk : l.take (k + 1) = l.take k ++ [nth l k] := by rw [List.take_succ_eq_append_getElem hlt, nth_eq l k hlt]
      generalize hnx : nth l k = x at *
      obtain ⟨x0, x1, x2, x3, x4, x5⟩ := x
      have HX := Hd.mk hnx
      have HTk := Hd.mk htk
      clear hnx htk hcell
      dsimp only at *
      have hcm := qless x0 x1 x2 x4 x5 t0 t1 t2 t4 t5 x3 t3
      by_cases hles : lessT ⟨x0, x1, x2, x3, x4, x5⟩ ⟨t0, t1, t2, t3, t4, t5⟩
      · rw [decide_eq_true hles] at hcm
        have HLs := Hd.mk hles
        clear hles
        go_upto_region 3 with fail
        go_quiet_grown (first | (go_at_call 47; with_reducible exact quiet_grown rfl (hcm _)))
        generalize hV : Sort.grow _ _ = V
        have BV : Bl wr V := by rw [← hV]; exact (by repeat (first | with_reducible exact Bl.refl _ | with_reducible apply Bl.alloc | with_reducible apply Bl.grow | with_reducible apply Bl.sd | with_reducible apply Bl.drewN | with_reducible apply Bl.drew))
        have e0 := (Below.cell BV (World.block_lt_of_cell? wr _ k0)).trans k0
        have e1 := (Below.cell BV (World.block_lt_of_cell? wr _ k1)).trans k1
        have e2 := (Below.cell BV (World.block_lt_of_cell? wr _ k2)).trans k2
        have e3 := (Below.cell BV (World.block_lt_of_cell? wr _ k3)).trans k3
        have e4 := (Below.cell BV (World.block_lt_of_cell? wr _ k4)).trans k4
        have e5 := (Below.cell BV (World.block_lt_of_cell? wr _ k5)).trans k5
        have zbV : b < V.heap.size := World.block_lt_of_cell? V _ e0
        have hszV := BV.size
        have HBV := Hd.mk (HB.out.trans BV)
        have HOV := Hd.mk (HO.out.bl BV)
        have hlk : (l.take k).length ≤ 600 := by rw [List.length_take]; omega
        clear hV BV k0 k1 k2 k3 k4 k5 d0 d1 d2 d3 d4 d5 zd hb
        go_wp2_with (at_builtin; refine wpList_append_own_at _ rfl _ _ 22 rfl W.heap.size 43 i0 _ 6 48 Try.underlying22 hi hz0 hz1 hz2 rfl (by decide) _ _ _ rfl (own_below HOV.out (by repeat (first | with_reducible exact Bl.refl _ | with_reducible apply Bl.alloc | with_reducible apply Bl.grow | with_reducible apply Bl.sd | with_reducible apply Bl.drewN | with_reducible apply Bl.drew))) ⟨V.heap.size, 0, none⟩ 1 1 [.int .i64 x0, .int .i64 x1, .int .i64 x2, .bool x3, .int .i64 x4, .int .i64 x5] rfl rfl (news_alloc _ _ _ _ rfl) (by simp [Value.oneCell']) (by simp only [maxLen]; omega) (by omega) (by simp [go_sem]; omega) ?_)
        intro v1 w1 hown1 hgr1 _ _
        have HO1 := Hd.mk hown1
        have HG1 := Hd.mk (Bl.grown (HBV.out.alloc _) hgr1 (fun q hq => (World.ownsRow.lt HOV.out q hq).1))
        clear hown1 hgr1
        go_wp2
        go_roundg (l.length - (k + 1))
        case measure => omega
        case rel =>
          refine ⟨k + 1, by omega, by omega, by go_num, ⟨?_⟩, ⟨HG1.out.trans (by repeat (first | with_reducible exact Bl.refl _ | with_reducible apply Bl.alloc | with_reducible apply Bl.grow | with_reducible apply Bl.sd | with_reducible apply Bl.drewN | with_reducible apply Bl.drew))⟩, ⟨fun j hj => ?_⟩⟩
          · have h := HO1.out
            rw [HTk.out]
            unfold Ow
            rw [List.length_append, tcsC_append, List.length_take, Nat.min_eq_left (by omega)]
            exact h
          · rcases Nat.lt_or_ge j k with e | e
            · exact HL.out j e
            · obtain rfl : j = k := by omega
              rw [HX.out]
              exact HLs.out
      · rw [decide_eq_false hles] at hcm
        have HLs := Hd.mk hles
        clear hles
        go_upto_region 3 with fail
        go_quiet_grown (first | (go_at_call 47; with_reducible exact quiet_grown rfl (hcm _)))
        have hlow : lowT l ⟨t0, t1, t2, t3, t4, t5⟩ = k := low_boundary _ l k hk HL.out (fun j h1 h2 hh => by
          rcases Nat.lt_or_ge k j with e | e
          · have h3 := HS.out k j e h2
            rw [HX.out] at h3
            exact HLs.out (lessT_trans h3 hh)
          · obtain rfl : j = k := by omega
            rw [HX.out] at hh
            exact HLs.out hh)
        have hfin := HFin.out
        unfold insT at hfin
        rw [hlow] at hfin
        have HFin2 := Hd.mk hfin
        clear hlow hfin
        generalize hV : Sort.grow _ _ = V
        have BV : Bl wr V := by rw [← hV]; exact (by repeat (first | with_reducible exact Bl.refl _ | with_reducible apply Bl.alloc | with_reducible apply Bl.grow | with_reducible apply Bl.sd | with_reducible apply Bl.drewN | with_reducible apply Bl.drew))
        have f0 := (Below.cell BV (p := ⟨w.heap.size, 0, none⟩) zd).trans d0
        have f1 := (Below.cell BV (p := ⟨w.heap.size, 1, none⟩) zd).trans d1
        have f2 := (Below.cell BV (p := ⟨w.heap.size, 2, none⟩) zd).trans d2
        have f3 := (Below.cell BV (p := ⟨w.heap.size, 3, none⟩) zd).trans d3
        have f4 := (Below.cell BV (p := ⟨w.heap.size, 4, none⟩) zd).trans d4
        have f5 := (Below.cell BV (p := ⟨w.heap.size, 5, none⟩) zd).trans d5
        have zV : w.heap.size < V.heap.size := World.block_lt_of_cell? V _ f0
        have hszV := BV.size
        have HBV := Hd.mk (HB.out.trans BV)
        have HOV := Hd.mk (HO.out.bl BV)
        have hlk : (l.take k).length ≤ 600 := by rw [List.length_take]; omega
        clear hV BV k0 k1 k2 k3 k4 k5 d0 d1 d2 d3 d4 d5 zd hb
        go_wp2_with (at_builtin; refine wpList_append_own_at _ rfl _ _ 22 rfl W.heap.size 43 i0 _ 6 48 Try.underlying22 hi hz0 hz1 hz2 rfl (by decide) _ _ _ rfl (own_below HOV.out (by repeat (first | with_reducible exact Bl.refl _ | with_reducible apply Bl.alloc | with_reducible apply Bl.grow | with_reducible apply Bl.sd | with_reducible apply Bl.drewN | with_reducible apply Bl.drew))) ⟨V.heap.size, 0, none⟩ 1 1 [.int .i64 t0, .int .i64 t1, .int .i64 t2, .bool t3, .int .i64 t4, .int .i64 t5] rfl rfl (news_alloc _ _ _ _ rfl) (by simp [Value.oneCell']) (by simp only [maxLen]; omega) (by omega) (by simp [go_sem]; omega) ?_)
        intro v1 w1 hown1 hgr1 _ _
        have HO1 := Hd.mk hown1
        have HG1 := Hd.mk (Bl.grown (HBV.out.alloc _) hgr1 (fun q hq => (World.ownsRow.lt HOV.out q hq).1))
        clear hown1 hgr1
        have hcl : ∀ j u, (tcsC (l.drop k))[j]? = some u → w1.cell? ((⟨b, off + k * 6, none⟩ : Addr).add j) = some u := by
          intro j u hj
          rw [← tcsC_drop, List.getElem?_drop] at hj
          have := ((HR2.out.bl HG1.out).cells) _ rfl (k * 6 + j) u hj
          rw [Addr.add_lit] at this ⊢
          rw [Nat.add_assoc]
          exact this
        have HCl := Hd.mk hcl
        have hdl : (tcsC (l.drop k)).length = (l.length - k) * 6 := by rw [tcsC_len, List.length_drop]
        have hb1 := HG1.out.size
        clear hcl
        go_wp2_with (at_builtin; refine wpList_append_own_at _ rfl _ _ 22 rfl W.heap.size 43 i0 _ 6 48 Try.underlying22 hi hz0 hz1 hz2 rfl (by decide) _ _ _ rfl HO1.out ⟨b, off + k * 6, none⟩ (l.length - k) (c - k) (tcsC (l.drop k)) rfl hdl HCl.out (tcsC_one _) (by simp only [maxLen]; omega) (by omega) hb1 ?_)
        intro v2 w2 hown2 hgr2 _ _
        have HO2 := Hd.mk hown2
        have HG2 := Hd.mk (Bl.grown HG1.out hgr2 (fun q hq => (World.ownsRow.lt HO1.out q hq).1))
        clear hown2 hgr2
        go_wp2
        go_ret
        refine ⟨_, rfl, Ow.lower (b0 := w.heap.size) (base := W.heap.size) ?_ hws, HB0.out.trans HG2.out⟩
        have h := HO2.out
        rw [← HFin2.out]
        unfold Ow
        rw [show (l.take k ++ ⟨t0, t1, t2, t3, t4, t5⟩ :: l.drop k).length = (l.take k).length + 1 + (l.length - k) by simp; omega,
          show tcsC (l.take k ++ ⟨t0, t1, t2, t3, t4, t5⟩ :: l.drop k) = tcsC (l.take k) ++ [.int .i64 t0, .int .i64 t1, .int .i64 t2, .bool t3, .int .i64 t4, .int .i64 t5] ++ tcsC (l.drop k) by rw [tcsC_append]; simp [tcsC, tcC]]
        simp only [List.length_take, Nat.min_eq_left hk, List.append_assoc, List.cons_append, List.nil_append] at h ⊢
        exact h
    · obtain rfl : k = l.length := by omega
      have hltz : ¬ ((l.length : Int) < (l.length : Int)) := by omega
      have hd8 : decide ((l.length : Int) < (l.length : Int)) = false := decide_eq_false (by omega)
      have hlow : lowT l ⟨t0, t1, t2, t3, t4, t5⟩ = l.length := low_boundary _ l l.length (Nat.le_refl _) HL.out (fun j h1 h2 => by omega)
      have hfin := HFin.out
      unfold insT at hfin
      rw [hlow] at hfin
      have HFin2 := Hd.mk hfin
      clear hlow hfin
      go_upto_region 3 with fail
      go_quiet (fail)
      generalize hV : World.drewN _ _ = V
      have BV : Bl wr V := by rw [← hV]; exact (by repeat (first | with_reducible exact Bl.refl _ | with_reducible apply Bl.alloc | with_reducible apply Bl.grow | with_reducible apply Bl.sd | with_reducible apply Bl.drewN | with_reducible apply Bl.drew))
      have f0 := (Below.cell BV (p := ⟨w.heap.size, 0, none⟩) zd).trans d0
      have f1 := (Below.cell BV (p := ⟨w.heap.size, 1, none⟩) zd).trans d1
      have f2 := (Below.cell BV (p := ⟨w.heap.size, 2, none⟩) zd).trans d2
      have f3 := (Below.cell BV (p := ⟨w.heap.size, 3, none⟩) zd).trans d3
      have f4 := (Below.cell BV (p := ⟨w.heap.size, 4, none⟩) zd).trans d4
      have f5 := (Below.cell BV (p := ⟨w.heap.size, 5, none⟩) zd).trans d5
      have zV : w.heap.size < V.heap.size := World.block_lt_of_cell? V _ f0
      have hszV := BV.size
      have HBV := Hd.mk (HB.out.trans BV)
      have hov := HO.out.bl BV
      rw [List.take_length] at hov
      have HOV := Hd.mk hov
      clear hV BV hov d0 d1 d2 d3 d4 d5 zd
      have hfin2 : l ++ [(⟨t0, t1, t2, t3, t4, t5⟩ : TC)] = fin := by rw [← HFin2.out]; simp
      have HFin3 := Hd.mk hfin2
      clear hfin2
      cases A
      all_goals
        go_wp2_with (at_builtin; refine wpList_append_own_at _ rfl _ _ 22 rfl W.heap.size 43 i0 _ 6 48 Try.underlying22 hi hz0 hz1 hz2 rfl (by decide) _ _ _ rfl (own_below HOV.out (by repeat (first | with_reducible exact Bl.refl _ | with_reducible apply Bl.alloc | with_reducible apply Bl.grow | with_reducible apply Bl.sd | with_reducible apply Bl.drewN | with_reducible apply Bl.drew))) ⟨V.heap.size, 0, none⟩ 1 1 [.int .i64 t0, .int .i64 t1, .int .i64 t2, .bool t3, .int .i64 t4, .int .i64 t5] rfl rfl (news_alloc _ _ _ _ rfl) (by simp [Value.oneCell']) (by simp only [maxLen]; omega) (by omega) (by simp [go_sem]; omega) ?_)
        intro v1 w1 hown1 hgr1 _ _
        have HO1 := Hd.mk hown1
        have HG1 := Hd.mk (Bl.grown (HBV.out.alloc _) hgr1 (fun q hq => (World.ownsRow.lt HOV.out q hq).1))
        have hb1 := HG1.out.size
        clear hown1 hgr1
        go_wp2_with (at_builtin; refine wpList_app_run _ rfl _ _ 22 rfl _ _ rfl rfl (run_append_zero _ _ _ _ _ HO1.out _ _ _) ?_)
        all_goals
          go_ret
          refine ⟨_, rfl, Ow.lower (b0 := w.heap.size) (base := W.heap.size) ?_ hws, HB0.out.trans HG1.out⟩
          have h := HO1.out
          rw [← HFin3.out]
          unfold Ow
          rw [List.length_append, tcsC_append]
          exact h
end Go.Proofs.Ytcknakbjiklklaa.F
