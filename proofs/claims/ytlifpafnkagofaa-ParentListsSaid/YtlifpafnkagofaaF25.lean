import Derived.Test.YtlifpafnkagofaaF24
import Derived.Test.YtlifpafnkagofaaS14
/- hopmeshref23.Hear. -/
namespace Go.Proofs.Ytlifpafnkagofaa.F
open Go.RowKit Go.Sort Go.Proofs.Ytlifpafnkagofaa.B Go.Proofs.Ytlifpafnkagofaa.S
set_option linter.unusedVariables false
set_option linter.unusedSimpArgs false
def Box (W : World) (n : Nat) (x : Nb) : Prop :=
  W.cell? ⟨n, 0, none⟩ = some (.int .i64 x.nd) ∧ W.cell? ⟨n, 1, none⟩ = some (.int .i64 x.ep) ∧ W.cell? ⟨n, 2, none⟩ = some (.int .i64 x.ra) ∧ W.cell? ⟨n, 3, none⟩ = some (.int .i64 x.sl) ∧ W.cell? ⟨n, 4, none⟩ = some (.int .i64 x.c.at_) ∧ W.cell? ⟨n, 5, none⟩ = some (.int .i64 x.c.ak) ∧ ∀ k, W.frozen? ⟨n, k, none⟩ = false
theorem Box.bl {W X : World} {n : Nat} {x : Nb} (h : Box W n x) (hb : Bl W X) : Box X n x := by
  have old : ∀ {a : Addr} {u : Value}, W.cell? a = some u → X.cell? a = some u := fun h => (Below.cell hb (World.block_lt_of_cell? W _ h)).trans h
  have hl := World.block_lt_of_cell? W _ h.1
  obtain ⟨a, b, c, d, e, f, g⟩ := h
  exact ⟨old a, old b, old c, old d, old e, old f, fun k => (Below.frozen hb (p := ⟨n, k, none⟩) hl).trans (g k)⟩
theorem Box.lt {W : World} {n : Nat} {x : Nb} (h : Box W n x) : n < W.heap.size := World.block_lt_of_cell? W _ h.1
/-- What the reference begins with. -/
def begS (l : List Nb) (nd : Int) : Nb := if foundS l nd = true then nth l (lowS l nd) else ⟨nd, 0, 0, 0, ⟨0, 0⟩⟩
theorem beg_nd (l : List Nb) (nd : Int) : (begS l nd).nd = nd := by
  unfold begS
  split
  · rename_i h; unfold foundS at h; exact (of_decide_eq_true h).2
  · rfl
set_option maxHeartbeats 4000000 in
theorem xhear_early (A : Option Addr) (c : Nat) (l : List Nb) (nd ep ra sl : Int) (w : World) (hr : Rd w A l) (hc : l.length ≤ c) (hh : checkL l ≠ 0 ∨ heardS nd ep ra sl = false) :
    Calls Try.prog 25 #[.slice A l.length c, .int .i64 nd, .int .i64 ep, .int .i64 ra, .int .i64 sl] w fun e w' => ∃ v, e = .returned (.tuple #[v, .int .i64 (hearS l nd ep ra sl).2]) ∧ Ow w' w.heap.size v (hearS l nd ep ra sl).1 ∧ Bl w w' := by
  have hC : ∀ W, Bl w W → _ := fun W h => qcheck A c l W (hr.bl h) hc
  have hH := qranges nd ep ra sl
  by_cases h1 : checkL l = 0
  · have h2 : heardS nd ep ra sl = false := hh.resolve_left (fun e => e h1)
    have hs : hearS l nd ep ra sl = ([], 2) := by unfold hearS; rw [if_neg (by omega), if_pos h2]
    rw [hs]
    rw [h1] at hC
    rw [h2] at hH
    clear hr h1 h2 hs hh
    go_enter Try.func25, Try.ntmps25
    go_wp2_with (first | (go_at_call 28; (with_reducible refine (hC _ (by repeat (first | exact Bl.refl _ | with_reducible apply Bl.alloc | with_reducible apply Bl.grow | with_reducible apply Bl.sd | with_reducible apply Bl.drewN | with_reducible apply Bl.drew))).mono ?_); rintro e w' ⟨rfl, hg⟩; obtain ⟨n, os, rfl⟩ := hg.out; clear hg) | (go_at_call 59; (with_reducible refine (hH _).mono ?_); rintro e w' ⟨rfl, rfl⟩))
    exact bodyPost_ret (v := .tuple #[.slice none 0 0, .int .i64 2]) (by simp [results, Try.results25, go_sem]) rfl ⟨_, rfl, Ow.nil _ _, (by repeat (first | exact Bl.refl _ | with_reducible apply Bl.alloc | with_reducible apply Bl.grow | with_reducible apply Bl.sd | with_reducible apply Bl.drewN | with_reducible apply Bl.drew))⟩
  · have hs : hearS l nd ep ra sl = ([], 1) := by unfold hearS; rw [if_pos h1]
    rw [hs]
    clear hr hs hh
    go_enter Try.func25, Try.ntmps25
    go_wp2_with (first | (go_at_call 28; (with_reducible refine (hC _ (by repeat (first | exact Bl.refl _ | with_reducible apply Bl.alloc | with_reducible apply Bl.grow | with_reducible apply Bl.sd | with_reducible apply Bl.drewN | with_reducible apply Bl.drew))).mono ?_); rintro e w' ⟨rfl, hg⟩; obtain ⟨n, os, rfl⟩ := hg.out; clear hg))
    exact bodyPost_ret (v := .tuple #[.slice none 0 0, .int .i64 1]) (by simp [results, Try.results25, go_sem]) rfl ⟨_, rfl, Ow.nil _ _, (by repeat (first | exact Bl.refl _ | with_reducible apply Bl.alloc | with_reducible apply Bl.grow | with_reducible apply Bl.sd | with_reducible apply Bl.drewN | with_reducible apply Bl.drew))⟩
set_option maxHeartbeats 4000000 in
set_option maxRecDepth 100000 in
theorem xhear_main (A : Option Addr) (c : Nat) (l : List Nb) (nd ep ra sl : Int) (w : World) (hr : Rd w A l) (hc : l.length ≤ c) (h1 : checkL l = 0) (h2 : heardS nd ep ra sl = true) :
    Calls Try.prog 25 #[.slice A l.length c, .int .i64 nd, .int .i64 ep, .int .i64 ra, .int .i64 sl] w fun e w' => ∃ v, e = .returned (.tuple #[v, .int .i64 (hearS l nd ep ra sl).2]) ∧ Ow w' w.heap.size v (hearS l nd ep ra sl).1 ∧ Bl w w' := by
  obtain ⟨i0, hi, hz0, hz1, hz2⟩ := info_of infoE
  have hC : ∀ W, Bl w W → _ := fun W h => qcheck A c l W (hr.bl h) hc
  have hH := qranges nd ep ra sl
  obtain ⟨h32, hok, hso⟩ := checkL_ok h1
  have hF : ∀ W, Bl w W → _ := fun W h => qindex A c l nd W (hr.bl h) hc hso
  have hsl : 0 ≤ sl := by
    unfold heardS at h2
    simp only [Bool.and_eq_true, win_iff] at h2
    omega
  have hs : hearS l nd ep ra sl = if (begS l nd).sl > sl then ([], 15) else (l.take (lowS l nd) ++ ⟨nd, ep, ra, sl, (begS l nd).c⟩ :: neF nd (l.drop (lowS l nd)), 0) := by
    rw [hear_same hso]
    unfold hearS hearL begS
    rw [if_neg (by omega), if_neg (by rw [h2]; decide)]
    cases hf : foundS l nd with
    | true => simp only [if_true, true_and]
    | false =>
      simp only [Bool.false_eq_true, if_false, false_and]
      rw [if_neg (show ¬ (0 : Int) > sl by omega)]
  rw [hs]
  unfold indexS at hF
  rw [h1] at hC
  rw [h2] at hH
  have hle := low_le l nd
  have hlow := fun k hk => low_lt (t := nd) k hk hso
  have hbeg : begS l nd = if foundS l nd = true then nth l (lowS l nd) else ⟨nd, 0, 0, 0, ⟨0, 0⟩⟩ := rfl
  have hbn := beg_nd l nd
  have hflt : foundS l nd = true → lowS l nd < l.length := found_lt
  generalize begS l nd = x at *
  obtain ⟨x0, x1, x2, x3, ⟨x4, x5⟩⟩ := x
  dsimp only at hbn hs ⊢
  subst hbn
  have HR := Hd.mk hr
  have HBeg := Hd.mk hbeg
  have HLow := Hd.mk hlow
  clear hr h1 h2 hs hok hso hbeg hlow
  generalize lowS l x0 = i at *
  generalize foundS l x0 = fo at *
  generalize hres : (if x3 > sl then (([], 15) : List Nb × Int) else _) = res
  have HRes := Hd.mk hres
  clear hres
  go_enter Try.func25, Try.ntmps25
  go_upto_if 31 with (first | (go_at_call 28; (with_reducible refine (hC _ (by repeat (first | exact Bl.refl _ | with_reducible apply Bl.alloc | with_reducible apply Bl.grow | with_reducible apply Bl.sd | with_reducible apply Bl.drewN | with_reducible apply Bl.drew))).mono ?_); rintro e w' ⟨rfl, hg⟩; obtain ⟨n1, os1, rfl⟩ := hg.out; clear hg) | (go_at_call 59; (with_reducible refine (hH _).mono ?_); rintro e w' ⟨rfl, rfl⟩) | (go_at_call 47; (with_reducible refine (hF _ (by repeat (first | exact Bl.refl _ | with_reducible apply Bl.alloc | with_reducible apply Bl.grow | with_reducible apply Bl.sd | with_reducible apply Bl.drewN | with_reducible apply Bl.drew))).mono ?_); rintro e w' ⟨rfl, rfl⟩))
  go_cut [] (fun wx => Hd (Box wx (w.heap.size + os1.size) ⟨x0, x1, x2, x3, ⟨x4, x5⟩⟩ ∧ Bl w wx))
  case first =>
    cases fo with
    | false =>
      have e := HBeg.out
      rw [if_neg (by decide)] at e
      simp only [Nb.mk.injEq, Ct.mk.injEq, true_and] at e
      obtain ⟨rfl, rfl, rfl, rfl, rfl⟩ := e
      go_wp2
      go_meet
      exact ⟨⟨by go_simp, by go_simp, by go_simp, by go_simp, by go_simp, by go_simp, fun k => by go_simp⟩, (by repeat (first | exact Bl.refl _ | with_reducible apply Bl.alloc | with_reducible apply Bl.grow | with_reducible apply Bl.sd | with_reducible apply Bl.drewN | with_reducible apply Bl.drew))⟩
    | true =>
      have hlt := hflt rfl
      have e := HBeg.out
      rw [if_pos rfl] at e
      obtain ⟨b, off, rfl, hb, hcell⟩ := HR.out.2 (by omega)
      obtain ⟨k0, k1, k2, k3, k4, k5⟩ := hcell i hlt
      rw [← e] at k0 k1 k2 k3 k4 k5
      have hltz : (i : Int) < (l.length : Int) := by omega
      have hiz : (0 : Int) ≤ (i : Int) := by omega
      clear hcell e
      dsimp only at k0 k1 k2 k3 k4 k5
      go_wp2
      go_meet
      exact ⟨⟨by go_simp, by go_simp, by go_simp, by go_simp, by go_simp, by go_simp, fun k => by go_simp⟩, (by repeat (first | exact Bl.refl _ | with_reducible apply Bl.alloc | with_reducible apply Bl.grow | with_reducible apply Bl.sd | with_reducible apply Bl.drewN | with_reducible apply Bl.drew))⟩
  case rest =>
    obtain ⟨hbx, hbl⟩ := hcut.out
    have hbxl := hbx.lt
    obtain ⟨q0, q1, q2, q3, q4, q5, q6⟩ := hbx
    generalize (if fo = true then (i : Int) else -1) = ix at *
    dsimp only at q0 q1 q2 q3 q4 q5
    have HBl := Hd.mk hbl
    have hws := hbl.size
    clear hbl hC hF hH HBeg hflt
    by_cases hla : x3 > sl
    · have e := HRes.out
      rw [if_pos hla] at e
      subst e
      go_wp2
      exact bodyPost_ret (v := .tuple #[.slice none 0 0, .int .i64 15]) (by simp [results, Try.results25, go_sem]) rfl ⟨_, rfl, Ow.nil _ _, HBl.out⟩
    · have e := HRes.out
      rw [if_neg hla] at e
      subst e
      go_upto_region 12 with (fail)
      generalize hX : World.setCell _ _ _ = X
      have HX := Hd.mk hX
      clear hX
      have hbX : Bl w X := by rw [← HX.out]; exact Bl.setCell (Bl.setCell (Bl.setCell HBl.out (by omega)) (by omega)) (by omega)
      have f0 : X.cell? ⟨w.heap.size + os1.size, 0, none⟩ = some (.int .i64 x0) := by rw [← HX.out]; go_simp
      have f1 : X.cell? ⟨w.heap.size + os1.size, 1, none⟩ = some (.int .i64 ep) := by rw [← HX.out]; go_simp
      have f2 : X.cell? ⟨w.heap.size + os1.size, 2, none⟩ = some (.int .i64 ra) := by rw [← HX.out]; go_simp
      have f3 : X.cell? ⟨w.heap.size + os1.size, 3, none⟩ = some (.int .i64 sl) := by rw [← HX.out]; go_simp
      have f4 : X.cell? ⟨w.heap.size + os1.size, 4, none⟩ = some (.int .i64 x4) := by rw [← HX.out]; go_simp
      have f5 : X.cell? ⟨w.heap.size + os1.size, 5, none⟩ = some (.int .i64 x5) := by rw [← HX.out]; go_simp
      have f6 : ∀ k, X.frozen? ⟨w.heap.size + os1.size, k, none⟩ = false := fun k => by rw [← HX.out]; go_simp
      have hBox : Box X (w.heap.size + os1.size) ⟨x0, ep, ra, sl, ⟨x4, x5⟩⟩ := ⟨f0, f1, f2, f3, f4, f5, f6⟩
      have hRd := HR.out.bl hbX
      have HBox := Hd.mk hBox
      have HRd := Hd.mk hRd
      have HBX := Hd.mk hbX
      have hwX := hbX.size
      clear HX f0 f1 f2 f3 f4 f5 f6 q0 q1 q2 q3 q4 q5 q6 hBox hRd hbX
      go_wp2
      go_loopg [14, 15] l.length (fun gg s14 s15 wr => ∃ k : Nat, k ≤ i ∧ l.length - k ≤ gg ∧ s15 = .int .i64 k ∧ Hd (Ow wr X.heap.size s14 (l.take k)) ∧ Hd (Bl X wr))
      case atStart => exact ⟨0, Nat.zero_le _, by omega, rfl, ⟨by rw [List.take_zero]; exact Ow.nil _ _⟩, ⟨Bl.refl _⟩⟩
      case round =>
        obtain ⟨k, hk, hg, rfl, HO, HB⟩ := hrel
        by_cases hki : k < i
        · have hlt : k < l.length := by omega
          obtain ⟨b, off, rfl, hb, hcell⟩ := HRd.out.2 (by omega)
          obtain ⟨d, os, rfl⟩ := HB.out.out
          obtain ⟨k0, k1, k2, k3, k4, k5⟩ := hcell k hlt
          have hltz : (k : Int) < (l.length : Int) := by omega
          have hkz : (0 : Int) ≤ (k : Int) := by omega
          have hnd := (HLow.out k hlt).2 hki
          have htk := List.take_succ_eq_append_getElem hlt
          rw [← nth_eq l k hlt] at htk
          have HT := Hd.mk htk
          clear hcell htk
          generalize hx : nth l k = y at *
          obtain ⟨y0, y1, y2, y3, ⟨y4, y5⟩⟩ := y
          clear hx
          dsimp only at *
          have hlen : (l.take k).length = k := by rw [List.length_take]; omega
          have HLen := Hd.mk hlen
          clear hlen
          go_wp2_with (first | (at_builtin; (refine wpList_append_own_at _ rfl _ _ 22 rfl X.heap.size 41 i0 _ 6 48 Try.underlying22 hi hz0 hz1 hz2 rfl (by decide) _ _ _ rfl (own_below HO.out (by repeat (first | exact Bl.refl _ | with_reducible apply Bl.alloc | with_reducible apply Bl.grow | with_reducible apply Bl.sd | with_reducible apply Bl.drewN | with_reducible apply Bl.drew))) _ _ _ (nbC ⟨y0, y1, y2, y3, ⟨y4, y5⟩⟩) rfl rfl (news_alloc _ #[.int .i64 y0, .int .i64 y1, .int .i64 y2, .int .i64 y3, .int .i64 y4, .int .i64 y5] 41 _ (by simp [go_sem])) (by simp [nbC, Value.oneCell']) (by rw [HLen.out]; simp only [maxLen]; omega) (by rw [HLen.out]; omega) (by simp [go_sem] <;> omega) ?_); intro v1 w1 hown1 hgr1 _ _; have HOw := Hd.mk hown1; have HGr := Hd.mk hgr1; clear hown1 hgr1))
          go_roundg (l.length - (k + 1))
          case measure => omega
          case rel =>
            refine ⟨k + 1, by omega, by omega, by go_num, ⟨?_⟩, ⟨Bl.grown (by repeat (first | exact Bl.refl _ | with_reducible apply Bl.alloc | with_reducible apply Bl.grow | with_reducible apply Bl.sd | with_reducible apply Bl.drewN | with_reducible apply Bl.drew)) HGr.out (fun q hq => by have := (World.ownsRow.lt HO.out q hq).1; simpa using this)⟩⟩
            have := HOw.out
            unfold Ow
            rw [HT.out, nbsC_append, List.length_append]
            simpa [nbsC] using this
        · obtain rfl : k = i := by omega
          obtain ⟨d, os, rfl⟩ := HB.out.out
          have hlen : (l.take k).length = k := by rw [List.length_take]; omega
          have HLen := Hd.mk hlen
          clear hlen
          obtain ⟨f0, f1, f2, f3, f4, f5, f6⟩ := HBox.out
          have hbxX := HBox.out.lt
          dsimp only at f0 f1 f2 f3 f4 f5
          rcases Nat.lt_or_ge k l.length with hil | hil
          case' inl =>
            obtain ⟨b, off, rfl, hb, hcell⟩ := HRd.out.2 (by omega)
            obtain ⟨k0, _⟩ := hcell k hil
            have hltz : (k : Int) < (l.length : Int) := by omega
            have hkz : (0 : Int) ≤ (k : Int) := by omega
            have hnd : ¬ (nth l k).nd < x0 := fun h => hki ((HLow.out k hil).1 h)
            clear hcell
            generalize (nth l k).nd = y0 at *
          case' inr =>
            have hltz : ¬ (k : Int) < (l.length : Int) := by omega
          all_goals
            go_wp2_with (first | (at_builtin; (refine wpList_append_own_at _ rfl _ _ 22 rfl X.heap.size 41 i0 _ 6 48 Try.underlying22 hi hz0 hz1 hz2 rfl (by decide) _ _ _ rfl (own_below HO.out (by repeat (first | exact Bl.refl _ | with_reducible apply Bl.alloc | with_reducible apply Bl.grow | with_reducible apply Bl.sd | with_reducible apply Bl.drewN | with_reducible apply Bl.drew))) _ _ _ (nbC ⟨x0, ep, ra, sl, ⟨x4, x5⟩⟩) rfl rfl (news_alloc _ #[.int .i64 x0, .int .i64 ep, .int .i64 ra, .int .i64 sl, .int .i64 x4, .int .i64 x5] 41 _ (by simp [go_sem])) (by simp [nbC, Value.oneCell']) (by rw [HLen.out]; simp only [maxLen]; omega) (by rw [HLen.out]; omega) (by simp [go_sem] <;> omega) ?_); intro v1 w1 hown1 hgr1 _ _; have HOw := Hd.mk hown1; have HGr := Hd.mk hgr1; clear hown1 hgr1))
            have hB1 : Bl X w1 := Bl.grown (by repeat (first | exact Bl.refl _ | with_reducible apply Bl.alloc | with_reducible apply Bl.grow | with_reducible apply Bl.sd | with_reducible apply Bl.drewN | with_reducible apply Bl.drew)) HGr.out (fun q hq => by have := (World.ownsRow.lt HO.out q hq).1; simpa using this)
            have hO1 : Ow w1 X.heap.size v1 (l.take k ++ ⟨x0, ep, ra, sl, ⟨x4, x5⟩⟩ :: neF x0 ((l.drop k).take (k - k))) := by
              have := HOw.out
              unfold Ow
              rw [Nat.sub_self, List.take_zero, show neF x0 [] = [] from rfl, nbsC_append, List.length_append]
              simpa [nbsC] using this
            have HB1 := Hd.mk hB1
            have HO1 := Hd.mk hO1
            clear hB1 hO1 HOw HGr HB HO hil hltz
            go_loopg [14, 15] l.length (fun gg s14 s15 wr => ∃ j : Nat, k ≤ j ∧ j ≤ l.length ∧ l.length - j ≤ gg ∧ s15 = .int .i64 j ∧ Hd (Ow wr X.heap.size s14 (l.take k ++ ⟨x0, ep, ra, sl, ⟨x4, x5⟩⟩ :: neF x0 ((l.drop k).take (j - k)))) ∧ Hd (Bl X wr))
            case atStart => exact ⟨k, Nat.le_refl _, hle, by omega, rfl, HO1, HB1⟩
            case round =>
              clear HO1 HB1
              obtain ⟨j, hkj, hjl, hg2, rfl, HO, HB⟩ := hrel
              obtain ⟨d2, os2, rfl⟩ := HB.out.out
              have hcur : (l.take k ++ (⟨x0, ep, ra, sl, ⟨x4, x5⟩⟩ : Nb) :: neF x0 ((l.drop k).take (j - k))).length ≤ 40 := by
                have h1 : (neF x0 ((l.drop k).take (j - k))).length ≤ ((l.drop k).take (j - k)).length := List.length_filter_le _ _
                simp only [List.length_append, List.length_cons, List.length_take, List.length_drop] at h1 ⊢
                omega
              by_cases hlt : j < l.length
              · obtain ⟨b2, off2, hA2, hb, hcell⟩ := HRd.out.2 (by omega)
                first
                  | (simp only [Option.some.injEq, Addr.mk.injEq, and_true] at hA2; obtain ⟨rfl, rfl⟩ := hA2)
                  | subst hA2
                obtain ⟨k0, k1, k2, k3, k4, k5⟩ := hcell j hlt
                have hltz : (j : Int) < (l.length : Int) := by omega
                have hjz : (0 : Int) ≤ (j : Int) := by omega
                have hsn := neF_snoc x0 (l.drop k) (j - k) (by rw [List.length_drop]; omega)
                rw [nth_drop, show k + (j - k) = j by omega, show j - k + 1 = j + 1 - k by omega] at hsn
                have HSn := Hd.mk hsn
                clear hcell hsn
                generalize hx : nth l j = y at *
                obtain ⟨y0, y1, y2, y3, ⟨y4, y5⟩⟩ := y
                clear hx
                dsimp only at *
                have HCur := Hd.mk hcur
                clear hcur
                by_cases hne : y0 = x0
                · have hneb : (y0 != x0) = false := by simp [hne]
                  clear hne
                  go_wp2
                  go_roundg (l.length - (j + 1))
                  case measure => omega
                  case rel =>
                    refine ⟨j + 1, by omega, by omega, by omega, by go_num, ⟨?_⟩, ⟨(by repeat (first | exact Bl.refl _ | with_reducible apply Bl.alloc | with_reducible apply Bl.grow | with_reducible apply Bl.sd | with_reducible apply Bl.drewN | with_reducible apply Bl.drew))⟩⟩
                    rw [HSn.out, hneb, if_neg (by decide), List.append_nil]
                    exact HO.out
                · have hneb : (y0 != x0) = true := by simp [hne]
                  clear hne
                  go_wp2_with (first | (at_builtin; (refine wpList_append_own_at _ rfl _ _ 22 rfl X.heap.size 41 i0 _ 6 48 Try.underlying22 hi hz0 hz1 hz2 rfl (by decide) _ _ _ rfl (own_below HO.out (by repeat (first | exact Bl.refl _ | with_reducible apply Bl.alloc | with_reducible apply Bl.grow | with_reducible apply Bl.sd | with_reducible apply Bl.drewN | with_reducible apply Bl.drew))) _ _ _ (nbC ⟨y0, y1, y2, y3, ⟨y4, y5⟩⟩) rfl rfl (news_alloc _ #[.int .i64 y0, .int .i64 y1, .int .i64 y2, .int .i64 y3, .int .i64 y4, .int .i64 y5] 41 _ (by simp [go_sem])) (by simp [nbC, Value.oneCell']) (by have := HCur.out; simp only [maxLen]; omega) (by have := HCur.out; omega) (by simp [go_sem] <;> omega) ?_); intro v2 w2 hown2 hgr2 _ _; have HOw := Hd.mk hown2; have HGr := Hd.mk hgr2; clear hown2 hgr2))
                  go_roundg (l.length - (j + 1))
                  case measure => omega
                  case rel =>
                    refine ⟨j + 1, by omega, by omega, by omega, by go_num, ⟨?_⟩, ⟨Bl.grown (by repeat (first | exact Bl.refl _ | with_reducible apply Bl.alloc | with_reducible apply Bl.grow | with_reducible apply Bl.sd | with_reducible apply Bl.drewN | with_reducible apply Bl.drew)) HGr.out (fun q hq => by have := (World.ownsRow.lt HO.out q hq).1; simpa using this)⟩⟩
                    have := HOw.out
                    unfold Ow
                    rw [HSn.out, hneb, if_pos rfl, show l.take k ++ (⟨x0, ep, ra, sl, ⟨x4, x5⟩⟩ : Nb) :: (neF x0 ((l.drop k).take (j - k)) ++ [⟨y0, y1, y2, y3, ⟨y4, y5⟩⟩]) = (l.take k ++ ⟨x0, ep, ra, sl, ⟨x4, x5⟩⟩ :: neF x0 ((l.drop k).take (j - k))) ++ [⟨y0, y1, y2, y3, ⟨y4, y5⟩⟩] by simp, nbsC_append, List.length_append]
                    exact this
              · obtain rfl : j = l.length := by omega
                have hltz2 : ¬ ((l.length : Int) < (l.length : Int)) := by omega
                go_wp2
                refine bodyPost_ret (v := .tuple #[_, .int .i64 0]) (by simp [results, Try.results25, go_sem]; rfl) rfl ⟨_, rfl, ?_, HBX.out.trans (by repeat (first | exact Bl.refl _ | with_reducible apply Bl.alloc | with_reducible apply Bl.grow | with_reducible apply Bl.sd | with_reducible apply Bl.drewN | with_reducible apply Bl.drew))⟩
                have := HO.out
                rw [show (l.drop k).take (l.length - k) = l.drop k from List.take_of_length_le (by rw [List.length_drop]; omega)] at this
                exact this.lower hwX
theorem xhear (A : Option Addr) (c : Nat) (l : List Nb) (nd ep ra sl : Int) (w : World) (hr : Rd w A l) (hc : l.length ≤ c) :
    Calls Try.prog 25 #[.slice A l.length c, .int .i64 nd, .int .i64 ep, .int .i64 ra, .int .i64 sl] w fun e w' => ∃ v, e = .returned (.tuple #[v, .int .i64 (hearS l nd ep ra sl).2]) ∧ Ow w' w.heap.size v (hearS l nd ep ra sl).1 ∧ Bl w w' := by
  by_cases h1 : checkL l = 0
  · cases h2 : heardS nd ep ra sl with
    | false => exact xhear_early A c l nd ep ra sl w hr hc (.inr h2)
    | true => exact xhear_main A c l nd ep ra sl w hr hc h1 h2
  · exact xhear_early A c l nd ep ra sl w hr hc (.inl h1)
end Go.Proofs.Ytlifpafnkagofaa.F
