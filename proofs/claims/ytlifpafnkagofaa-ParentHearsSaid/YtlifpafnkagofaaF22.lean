import Derived.Test.YtlifpafnkagofaaF21
/- parent.Hear. -/
namespace Go.Proofs.Ytlifpafnkagofaa.F
open Go.RowKit Go.Sort Go.Proofs.Ytlifpafnkagofaa.B Go.Proofs.Ytlifpafnkagofaa.S
set_option linter.unusedVariables false
set_option linter.unusedSimpArgs false
theorem Ow.lower {w : World} {base b0 : Nat} {v : Value} {l : List Nb} (h : Ow w base v l) (hb : b0 ≤ base) : Ow w b0 v l := by
  obtain ⟨h1, h2⟩ := h
  refine ⟨h1, h2.imp id ?_⟩
  rintro ⟨g, cap, cur, e, hg, r⟩
  exact ⟨g, cap, cur, e, Nat.le_trans hb hg, r⟩
theorem Ow.set6 {w : World} {base g cap : Nat} {l : List Nb} (h : Ow w base (.slice (some ⟨g, 0, none⟩) l.length cap) l) {i : Nat} (hi : i < l.length) (x : Nb) :
    Ow ((((((w.setCell ⟨g, i * 6, none⟩ (.int .i64 x.nd)).setCell ⟨g, i * 6 + 1, none⟩ (.int .i64 x.ep)).setCell ⟨g, i * 6 + 2, none⟩ (.int .i64 x.ra)).setCell ⟨g, i * 6 + 3, none⟩ (.int .i64 x.sl)).setCell ⟨g, i * 6 + 4, none⟩ (.int .i64 x.c.at_)).setCell ⟨g, i * 6 + 5, none⟩ (.int .i64 x.c.ak)) base (.slice (some ⟨g, 0, none⟩) l.length cap) (l.set i x) := by
  have h1 := (World.ownsRow.stored h (i * 6) (.int .i64 x.nd)).1
  have h2 := (World.ownsRow.stored h1 (i * 6 + 1) (.int .i64 x.ep)).1
  have h3 := (World.ownsRow.stored h2 (i * 6 + 2) (.int .i64 x.ra)).1
  have h4 := (World.ownsRow.stored h3 (i * 6 + 3) (.int .i64 x.sl)).1
  have h5 := (World.ownsRow.stored h4 (i * 6 + 4) (.int .i64 x.c.at_)).1
  have h6 := (World.ownsRow.stored h5 (i * 6 + 5) (.int .i64 x.c.ak)).1
  rw [← nbsC_set x l i hi] at h6
  unfold Ow
  rw [List.length_set]
  exact h6
/-- slices.Insert into an own list. -/
theorem pinsert (base : Nat) (v : Value) (l : List Nb) (i : Nat) (x : Nb) (vb : Nat) (w : World) (hown : Ow w base v l) (hn : l.length ≤ 1000000) (hi : i ≤ l.length) (hv : w.heap[vb]? = some (.cells (nbC x).toArray 41 (0, 0))) (hvb : some vb ≠ v.ownBlock) (hb : base ≤ w.heap.size) :
    Calls Try.prog 57 #[v, .int .i64 i, .slice (some ⟨vb, 0, none⟩) 1 1] w fun e w' => ∃ v', e = .returned v' ∧ Ow w' base v' (l.take i ++ x :: l.drop i) ∧ w.grownBy w' v.ownBlock := by
  refine (insert_one base v l.length i (nbsC l) (nbC x) vb w hown hn hi hv rfl (by simp [nbC, Value.oneCell']) (nbsC_one l) hvb hb).mono fun e w' ⟨v', e1, e2, e3⟩ => ⟨v', e1, ?_, e3⟩
  unfold Ow
  rw [nbsC_take, nbsC_drop] at e2
  rw [show (l.take i ++ x :: l.drop i).length = l.length + 1 by simp; omega, show nbsC (l.take i ++ x :: l.drop i) = nbsC (l.take i) ++ nbC x ++ nbsC (l.drop i) by rw [nbsC_append]; simp [nbsC]]
  exact e2
theorem news_at (X : World) (o : Obj) (n : Nat) (h : n = X.heap.size) : (X.alloc o).heap[n]? = some o := by subst h; exact heap_alloc_new X o
theorem grown_at {X : World} (d : Nat) (os : Array Obj) {n : Nat} {o : Obj} (h : X.heap[n]? = some o) : (Sort.grow (sd X d) os).heap[n]? = some o :=
  (heap_grow_old (sd X d) os (show n < (sd X d).heap.size from (Array.getElem?_eq_some_iff.1 h).1)).trans h
set_option maxHeartbeats 4000000 in
theorem phear_early (A : Option Addr) (c : Nat) (l : List Nb) (nd ep ra sl : Int) (w : World) (hr : Rd w A l) (hc : l.length ≤ c) (hh : checkL l ≠ 0 ∨ heardS nd ep ra sl = false) :
    Calls Try.prog 24 #[.slice A l.length c, .int .i64 nd, .int .i64 ep, .int .i64 ra, .int .i64 sl] w fun e w' => ∃ v, e = .returned (.tuple #[v, .int .i64 (hearS l nd ep ra sl).2]) ∧ Ow w' w.heap.size v (hearS l nd ep ra sl).1 ∧ Bl w w' := by
  have hC : ∀ W, Bl w W → _ := fun W h => pcheck A c l W (hr.bl h) hc
  have hH := pheard nd ep ra sl
  by_cases h1 : checkL l = 0
  · have h2 : heardS nd ep ra sl = false := hh.resolve_left (fun e => e h1)
    have hs : hearS l nd ep ra sl = ([], 2) := by unfold hearS; rw [if_neg (by omega), if_pos h2]
    rw [hs]
    rw [h1] at hC
    rw [h2] at hH
    clear hr h1 h2 hs hh
    go_enter Try.func24, Try.ntmps24
    go_wp2_with (first | (go_at_call 17; (with_reducible refine (hC _ (by repeat (first | exact Bl.refl _ | with_reducible apply Bl.alloc | with_reducible apply Bl.grow | with_reducible apply Bl.sd | with_reducible apply Bl.drewN | with_reducible apply Bl.drew))).mono ?_); rintro e w' ⟨rfl, hg⟩; obtain ⟨n, os, rfl⟩ := hg.out; clear hg) | (go_at_call 51; (with_reducible refine (hH _).mono ?_); rintro e w' ⟨rfl, rfl⟩))
    exact bodyPost_ret (v := .tuple #[.slice none 0 0, .int .i64 2]) (by simp [results, Try.results24, go_sem]) rfl ⟨_, rfl, Ow.nil _ _, (by repeat (first | exact Bl.refl _ | with_reducible apply Bl.alloc | with_reducible apply Bl.grow | with_reducible apply Bl.sd | with_reducible apply Bl.drewN | with_reducible apply Bl.drew))⟩
  · have hs : hearS l nd ep ra sl = ([], 1) := by unfold hearS; rw [if_pos h1]
    rw [hs]
    clear hr hs hh
    go_enter Try.func24, Try.ntmps24
    go_wp2_with (first | (go_at_call 17; (with_reducible refine (hC _ (by repeat (first | exact Bl.refl _ | with_reducible apply Bl.alloc | with_reducible apply Bl.grow | with_reducible apply Bl.sd | with_reducible apply Bl.drewN | with_reducible apply Bl.drew))).mono ?_); rintro e w' ⟨rfl, hg⟩; obtain ⟨n, os, rfl⟩ := hg.out; clear hg))
    exact bodyPost_ret (v := .tuple #[.slice none 0 0, .int .i64 1]) (by simp [results, Try.results24, go_sem]) rfl ⟨_, rfl, Ow.nil _ _, (by repeat (first | exact Bl.refl _ | with_reducible apply Bl.alloc | with_reducible apply Bl.grow | with_reducible apply Bl.sd | with_reducible apply Bl.drewN | with_reducible apply Bl.drew))⟩
set_option maxHeartbeats 4000000 in
theorem phear_known (A : Option Addr) (c : Nat) (l : List Nb) (nd ep ra sl : Int) (w : World) (hr : Rd w A l) (hc : l.length ≤ c) (h1 : checkL l = 0) (h2 : heardS nd ep ra sl = true) (hf : foundS l nd = true) :
    Calls Try.prog 24 #[.slice A l.length c, .int .i64 nd, .int .i64 ep, .int .i64 ra, .int .i64 sl] w fun e w' => ∃ v, e = .returned (.tuple #[v, .int .i64 (hearS l nd ep ra sl).2]) ∧ Ow w' w.heap.size v (hearS l nd ep ra sl).1 ∧ Bl w w' := by
  have hC : ∀ W, Bl w W → _ := fun W h => pcheck A c l W (hr.bl h) hc
  have hH := pheard nd ep ra sl
  obtain ⟨h32, hok, hso⟩ := checkL_ok h1
  have hF : ∀ W, Bl w W → _ := fun W h => pfind A c l nd W (hr.bl h) hc hso h32
  have hL : ∀ W, Bl w W → _ := fun W h => pclone A c l W (hr.bl h) hc (by omega)
  have hlt := found_lt hf
  have hs : hearS l nd ep ra sl = if (nth l (lowS l nd)).sl > sl then ([], 15) else (l.set (lowS l nd) ⟨nd, ep, ra, sl, (nth l (lowS l nd)).c⟩, 0) := by
    unfold hearS hearL
    rw [if_neg (by omega), if_neg (by rw [h2]; decide), if_pos hf]
    simp only [hf, true_and]
  rw [hs]
  rw [h1] at hC
  rw [h2] at hH
  rw [hf] at hF
  obtain ⟨b, off, rfl, hb, hcell⟩ := hr.2 (by omega)
  obtain ⟨k0, k1, k2, k3, k4, k5⟩ := hcell _ hlt
  clear hcell hr h1 h2 hf hs hok hso
  generalize lowS l nd = i at *
  have hltz : (i : Int) < (l.length : Int) := by omega
  have hiz : (0 : Int) ≤ (i : Int) := by omega
  by_cases hla : (nth l i).sl > sl
  · rw [if_pos hla]
    generalize nth l i = x at *
    obtain ⟨x0, x1, x2, x3, ⟨x4, x5⟩⟩ := x
    dsimp only at *
    go_enter Try.func24, Try.ntmps24
    go_wp2_with (first | (go_at_call 17; (with_reducible refine (hC _ (by repeat (first | exact Bl.refl _ | with_reducible apply Bl.alloc | with_reducible apply Bl.grow | with_reducible apply Bl.sd | with_reducible apply Bl.drewN | with_reducible apply Bl.drew))).mono ?_); rintro e w' ⟨rfl, hg⟩; obtain ⟨n, os, rfl⟩ := hg.out; clear hg) | (go_at_call 51; (with_reducible refine (hH _).mono ?_); rintro e w' ⟨rfl, rfl⟩) | (go_at_call 43; (with_reducible refine (hF _ (by repeat (first | exact Bl.refl _ | with_reducible apply Bl.alloc | with_reducible apply Bl.grow | with_reducible apply Bl.sd | with_reducible apply Bl.drewN | with_reducible apply Bl.drew))).mono ?_); rintro e w' ⟨rfl, hg⟩; obtain ⟨n, os, rfl⟩ := hg.out; clear hg))
    exact bodyPost_ret (v := .tuple #[.slice none 0 0, .int .i64 15]) (by simp [results, Try.results24, go_sem]) rfl ⟨_, rfl, Ow.nil _ _, (by repeat (first | exact Bl.refl _ | with_reducible apply Bl.alloc | with_reducible apply Bl.grow | with_reducible apply Bl.sd | with_reducible apply Bl.drewN | with_reducible apply Bl.drew))⟩
  · rw [if_neg hla]
    generalize hx : nth l i = x at *
    obtain ⟨x0, x1, x2, x3, ⟨x4, x5⟩⟩ := x
    have HX := Hd.mk hx
    clear hx
    dsimp only at *
    go_enter Try.func24, Try.ntmps24
    go_upto_region 12 with (first | (go_at_call 17; (with_reducible refine (hC _ (by repeat (first | exact Bl.refl _ | with_reducible apply Bl.alloc | with_reducible apply Bl.grow | with_reducible apply Bl.sd | with_reducible apply Bl.drewN | with_reducible apply Bl.drew))).mono ?_); rintro e w' ⟨rfl, hg⟩; obtain ⟨n1, os1, rfl⟩ := hg.out; clear hg) | (go_at_call 51; (with_reducible refine (hH _).mono ?_); rintro e w' ⟨rfl, rfl⟩) | (go_at_call 43; (with_reducible refine (hF _ (by repeat (first | exact Bl.refl _ | with_reducible apply Bl.alloc | with_reducible apply Bl.grow | with_reducible apply Bl.sd | with_reducible apply Bl.drewN | with_reducible apply Bl.drew))).mono ?_); rintro e w' ⟨rfl, hg⟩; obtain ⟨n2, os2, rfl⟩ := hg.out; clear hg))
    generalize hW : Sort.grow _ _ = W
    have HWe := Hd.mk hW
    clear hW
    have g0 : W.cell? ⟨w.heap.size + os1.size, 0, none⟩ = some (.int .i64 nd) := by rw [← HWe.out]; go_simp
    have g1 : W.cell? ⟨w.heap.size + os1.size, 1, none⟩ = some (.int .i64 ep) := by rw [← HWe.out]; go_simp
    have g2 : W.cell? ⟨w.heap.size + os1.size, 2, none⟩ = some (.int .i64 ra) := by rw [← HWe.out]; go_simp
    have g3 : W.cell? ⟨w.heap.size + os1.size, 3, none⟩ = some (.int .i64 sl) := by rw [← HWe.out]; go_simp
    have g4 : W.cell? ⟨w.heap.size + os1.size, 4, none⟩ = some (.int .i64 x4) := by rw [← HWe.out]; go_simp
    have g5 : W.cell? ⟨w.heap.size + os1.size, 5, none⟩ = some (.int .i64 x5) := by rw [← HWe.out]; go_simp
    have hB5 : Bl w W := by rw [← HWe.out]; exact (by repeat (first | exact Bl.refl _ | with_reducible apply Bl.alloc | with_reducible apply Bl.grow | with_reducible apply Bl.sd | with_reducible apply Bl.drewN | with_reducible apply Bl.drew))
    have hlW := hL W hB5
    have HB5 := Hd.mk hB5
    have hws := hB5.size
    clear HWe hB5 hL hC hF k0 k1 k2 k3 k4 k5
    go_wp2_with fail
    refine hlW.mono ?_
    rintro e w' ⟨v, rfl, hown, hbl⟩
    have old : ∀ {a : Addr} {u : Value}, W.cell? a = some u → w'.cell? a = some u := fun h => (Below.cell hbl (World.block_lt_of_cell? W _ h)).trans h
    have f0 := old g0
    have f1 := old g1
    have f2 := old g2
    have f3 := old g3
    have f4 := old g4
    have f5 := old g5
    obtain ⟨g, cap, rfl, hg, hgw, hcap, hcm, hfz, m0, m1, m2, m3, m4, m5⟩ := hown.form hlt
    have hgb : w.heap.size ≤ g := by omega
    have HOwn := Hd.mk hown
    have HBl := Hd.mk hbl
    clear old g0 g1 g2 g3 g4 g5 hlW hown hbl
    go_wp2
    refine bodyPost_ret (v := .tuple #[.slice (some ⟨g, 0, none⟩) l.length cap, .int .i64 0]) (by simp [results, Try.results24, go_sem]) rfl ⟨_, rfl, ?_, (by repeat (first | with_reducible refine Bl.setCell ?_ hgb | exact Bl.trans HB5.out HBl.out))⟩
    exact (Ow.set6 HOwn.out hlt ⟨nd, ep, ra, sl, ⟨x4, x5⟩⟩).lower hws
set_option maxHeartbeats 4000000 in
theorem phear_new (A : Option Addr) (c : Nat) (l : List Nb) (nd ep ra sl : Int) (w : World) (hr : Rd w A l) (hc : l.length ≤ c) (h1 : checkL l = 0) (h2 : heardS nd ep ra sl = true) (hf : foundS l nd = false) :
    Calls Try.prog 24 #[.slice A l.length c, .int .i64 nd, .int .i64 ep, .int .i64 ra, .int .i64 sl] w fun e w' => ∃ v, e = .returned (.tuple #[v, .int .i64 (hearS l nd ep ra sl).2]) ∧ Ow w' w.heap.size v (hearS l nd ep ra sl).1 ∧ Bl w w' := by
  have hC : ∀ W, Bl w W → _ := fun W h => pcheck A c l W (hr.bl h) hc
  have hH := pheard nd ep ra sl
  obtain ⟨h32, hok, hso⟩ := checkL_ok h1
  have hF : ∀ W, Bl w W → _ := fun W h => pfind A c l nd W (hr.bl h) hc hso h32
  have hL : ∀ W, Bl w W → _ := fun W h => pclone A c l W (hr.bl h) hc (by omega)
  have hle := low_le l nd
  have hs : hearS l nd ep ra sl = (l.take (lowS l nd) ++ ⟨nd, ep, ra, sl, ⟨0, 0⟩⟩ :: l.drop (lowS l nd), 0) := by
    unfold hearS hearL
    rw [if_neg (by omega), if_neg (by rw [h2]; decide), hf]
    simp
  rw [hs]
  rw [h1] at hC
  rw [h2] at hH
  rw [hf] at hF
  clear hr h1 h2 hf hs hok hso
  generalize lowS l nd = i at *
  go_enter Try.func24, Try.ntmps24
  go_upto_region 8 with (first | (go_at_call 17; (with_reducible refine (hC _ (by repeat (first | exact Bl.refl _ | with_reducible apply Bl.alloc | with_reducible apply Bl.grow | with_reducible apply Bl.sd | with_reducible apply Bl.drewN | with_reducible apply Bl.drew))).mono ?_); rintro e w' ⟨rfl, hg⟩; obtain ⟨n1, os1, rfl⟩ := hg.out; clear hg) | (go_at_call 51; (with_reducible refine (hH _).mono ?_); rintro e w' ⟨rfl, rfl⟩) | (go_at_call 43; (with_reducible refine (hF _ (by repeat (first | exact Bl.refl _ | with_reducible apply Bl.alloc | with_reducible apply Bl.grow | with_reducible apply Bl.sd | with_reducible apply Bl.drewN | with_reducible apply Bl.drew))).mono ?_); rintro e w' ⟨rfl, hg⟩; obtain ⟨n2, os2, rfl⟩ := hg.out; clear hg))
  generalize hW : Sort.grow _ _ = W
  have HWe := Hd.mk hW
  clear hW
  have g0 : W.cell? ⟨w.heap.size + os1.size, 0, none⟩ = some (.int .i64 nd) := by rw [← HWe.out]; go_simp
  have g1 : W.cell? ⟨w.heap.size + os1.size, 1, none⟩ = some (.int .i64 ep) := by rw [← HWe.out]; go_simp
  have g2 : W.cell? ⟨w.heap.size + os1.size, 2, none⟩ = some (.int .i64 ra) := by rw [← HWe.out]; go_simp
  have g3 : W.cell? ⟨w.heap.size + os1.size, 3, none⟩ = some (.int .i64 sl) := by rw [← HWe.out]; go_simp
  have g4 : W.cell? ⟨w.heap.size + os1.size, 4, none⟩ = some (.int .i64 0) := by rw [← HWe.out]; go_simp
  have g5 : W.cell? ⟨w.heap.size + os1.size, 5, none⟩ = some (.int .i64 0) := by rw [← HWe.out]; go_simp
  have hB5 : Bl w W := by rw [← HWe.out]; exact (by repeat (first | exact Bl.refl _ | with_reducible apply Bl.alloc | with_reducible apply Bl.grow | with_reducible apply Bl.sd | with_reducible apply Bl.drewN | with_reducible apply Bl.drew))
  have hbx := World.block_lt_of_cell? W _ g0
  have hl := fun X (h : Bl W X) => hL X (hB5.trans h)
  have HB5 := Hd.mk hB5
  have hws := hB5.size
  clear HWe hB5 hL hC hF
  have hm := mixed
  go_region_held3 (fun w' => w'.cell? ⟨w.heap.size + os1.size, 0, none⟩ = some (.int .i64 nd) ∧ w'.cell? ⟨w.heap.size + os1.size, 1, none⟩ = some (.int .i64 ep) ∧ w'.cell? ⟨w.heap.size + os1.size, 2, none⟩ = some (.int .i64 ra) ∧ w'.cell? ⟨w.heap.size + os1.size, 3, none⟩ = some (.int .i64 sl) ∧ w'.cell? ⟨w.heap.size + os1.size, 4, none⟩ = some (.int .i64 0) ∧ w'.cell? ⟨w.heap.size + os1.size, 5, none⟩ = some (.int .i64 0)) ((go_simp; done)) (first | (go_at_call 58; (with_reducible refine (hl _ (by repeat (first | exact Bl.refl _ | with_reducible apply Bl.alloc | with_reducible apply Bl.grow | with_reducible apply Bl.sd | with_reducible apply Bl.drewN | with_reducible apply Bl.drew))).mono ?_); rintro e w' ⟨v, rfl, hown, hbl⟩; have HOwn := Hd.mk hown; obtain ⟨d5, os5, rfl⟩ := hbl.out; clear hown hbl) | (go_at_call 57; (refine (pinsert W.heap.size _ l i ⟨nd, ep, ra, sl, ⟨0, 0⟩⟩ _ _ (Ow.lower (own_below HOwn.out (by repeat (first | exact Bl.refl _ | with_reducible apply Bl.alloc | with_reducible apply Bl.grow | with_reducible apply Bl.sd | with_reducible apply Bl.drewN | with_reducible apply Bl.drew))) (by simp [go_sem])) (by omega) hle (by first | exact news_at _ _ _ (by simp [go_sem]) | exact grown_at _ _ (news_at _ _ _ rfl)) (by intro e; have := World.ownsRow.lt HOwn.out _ e.symm; simp [go_sem] at this <;> omega) (by first | (simp [go_sem]; done) | (simp [go_sem]; omega) | omega)).mono ?_); rintro e w' ⟨v', rfl, hown', hgr⟩; have HOwn' := Hd.mk hown'; have hb2 : Bl W w' := Bl.grown (by repeat (first | exact Bl.refl _ | with_reducible apply Bl.alloc | with_reducible apply Bl.grow | with_reducible apply Bl.sd | with_reducible apply Bl.drewN | with_reducible apply Bl.drew)) hgr (fun k hk => by have := (World.ownsRow.lt HOwn.out k hk).1; simp [go_sem] at this; omega); have HB2 := Hd.mk hb2; obtain ⟨d6, os6, rfl⟩ := hb2.out; clear hown' hgr hb2))
  all_goals
    go_wp2
    exact bodyPost_ret (v := .tuple #[v', .int .i64 0]) (by simp [results, Try.results24, go_sem]) rfl ⟨_, rfl, HOwn'.out.lower hws, HB5.out.trans HB2.out⟩
theorem phear (A : Option Addr) (c : Nat) (l : List Nb) (nd ep ra sl : Int) (w : World) (hr : Rd w A l) (hc : l.length ≤ c) :
    Calls Try.prog 24 #[.slice A l.length c, .int .i64 nd, .int .i64 ep, .int .i64 ra, .int .i64 sl] w fun e w' => ∃ v, e = .returned (.tuple #[v, .int .i64 (hearS l nd ep ra sl).2]) ∧ Ow w' w.heap.size v (hearS l nd ep ra sl).1 ∧ Bl w w' := by
  by_cases h1 : checkL l = 0
  · cases h2 : heardS nd ep ra sl with
    | false => exact phear_early A c l nd ep ra sl w hr hc (.inr h2)
    | true =>
      cases h3 : foundS l nd with
      | false => exact phear_new A c l nd ep ra sl w hr hc h1 h2 h3
      | true => exact phear_known A c l nd ep ra sl w hr hc h1 h2 h3
  · exact phear_early A c l nd ep ra sl w hr hc (.inl h1)
end Go.Proofs.Ytlifpafnkagofaa.F
