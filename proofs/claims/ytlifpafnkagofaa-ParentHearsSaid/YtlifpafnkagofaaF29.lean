import Derived.Test.YtlifpafnkagofaaF23
/- Who stands at a number; ContainsFunc, Index, Contains. -/
namespace Go.Proofs.Ytlifpafnkagofaa.F
open Go.RowKit Go.Sort Go.Proofs.Ytlifpafnkagofaa.B Go.Proofs.Ytlifpafnkagofaa.S
set_option linter.unusedVariables false
set_option linter.unusedSimpArgs false
/-- The neighbour of this number, or one that says nothing. -/
def atS (l : List Nb) (nd : Int) : Nb := if idxF (isN nd) l 0 < 0 then ⟨nd, 0, 0, 0, ⟨0, 0⟩⟩ else nth l (idxF (isN nd) l 0).toNat
theorem eq31 : ∀ args W, (callFunc 31 args).run Try.prog W = .ok (.enter 31 args) W := enters_of Try.func31 (by kernel_rfl) rfl
theorem ret_nb {x y : Nb} (h : x = y) : Ending.returned (nbV x) = .returned (nbV y) := by rw [h]
set_option maxHeartbeats 4000000 in
theorem pat (A : Option Addr) (c : Nat) (l : List Nb) (nd : Int) (b : Nat) (w : World) (hr : Rd w A l) (hc : l.length ≤ c) (hn : w.cell? ⟨b, 0, none⟩ = some (.int .i64 nd)) :
    Calls Try.prog 31 #[.slice A l.length c, .pointer (some ⟨b, 0, none⟩)] w fun e w' => e = .returned (nbV (atS l nd)) ∧ Gr w w' := by
  have zn := World.block_lt_of_cell? w _ hn
  have hI : ∀ X, Gr w X → _ := fun X h => pindexf 32 #[.pointer (some ⟨b, 0, none⟩)] eq32 (isN nd) A c l X (hr.gr h) hc (fun x Y hY => clo32 b nd x Y (((h.trans hY).below.cell (p := ⟨b, 0, none⟩) zn).trans hn))
  have hl := hr.1
  rcases idxF_spec (isN nd) l 0 with ⟨e, _⟩ | ⟨j, hj, e, _, _⟩
  · have ha : atS l nd = ⟨nd, 0, 0, 0, ⟨0, 0⟩⟩ := by unfold atS; rw [if_pos (by omega)]
    rw [ha]
    rw [e] at hI
    clear ha e hr
    go_enter Try.func31, Try.ntmps31
    go_wp2_with (first | (go_at_call 21; (with_reducible refine (hI _ (by repeat (first | exact Gr.refl _ | with_reducible apply Gr.alloc | with_reducible apply Gr.grow | with_reducible apply Gr.drewN | with_reducible apply Gr.drew))).mono ?_); rintro e w' ⟨rfl, hg⟩; obtain ⟨n, os, rfl⟩ := hg.out; clear hg))
    refine ⟨rfl, _, by simp [results, Try.results31, go_sem]; (repeat' first | rfl | apply And.intro), rfl, (by repeat (first | exact Gr.refl _ | with_reducible apply Gr.alloc | with_reducible apply Gr.grow | with_reducible apply Gr.drewN | with_reducible apply Gr.drew))⟩
  · have ha : atS l nd = nth l j := by unfold atS; rw [if_neg (by omega), e]; congr 1; omega
    rw [ha]
    simp only [Nat.zero_add] at e
    rw [e] at hI
    obtain ⟨ab, ao, rfl, hb, hcell⟩ := hr.2 (by omega)
    obtain ⟨k0, k1, k2, k3, k4, k5⟩ := hcell j hj
    have hltz : (j : Int) < (l.length : Int) := by omega
    have hjz : (0 : Int) ≤ (j : Int) := by omega
    clear ha e hr hcell
    generalize nth l j = x at *
    obtain ⟨x0, x1, x2, x3, ⟨x4, x5⟩⟩ := x
    dsimp only [nbV] at *
    go_enter Try.func31, Try.ntmps31
    go_wp2_with (first | (go_at_call 21; (with_reducible refine (hI _ (by repeat (first | exact Gr.refl _ | with_reducible apply Gr.alloc | with_reducible apply Gr.grow | with_reducible apply Gr.drewN | with_reducible apply Gr.drew))).mono ?_); rintro e w' ⟨rfl, hg⟩; obtain ⟨n, os, rfl⟩ := hg.out; clear hg))
    refine ⟨rfl, _, by simp [results, Try.results31, go_sem]; (repeat' first | rfl | apply And.intro), rfl, (by repeat (first | exact Gr.refl _ | with_reducible apply Gr.alloc | with_reducible apply Gr.grow | with_reducible apply Gr.drewN | with_reducible apply Gr.drew))⟩
def hasN (l : List Nb) (nd : Int) : Bool := decide (0 ≤ idxF (isN nd) l 0)
theorem phas (A : Option Addr) (c : Nat) (l : List Nb) (nd : Int) (b : Nat) (w : World) (hr : Rd w A l) (hc : l.length ≤ c) (hn : w.cell? ⟨b, 0, none⟩ = some (.int .i64 nd)) :
    Calls Try.prog 33 #[.slice A l.length c, .func (.func 34) #[] #[.pointer (some ⟨b, 0, none⟩)]] w fun e w' => e = .returned (.bool (hasN l nd)) ∧ Gr w w' := by
  have zn := World.block_lt_of_cell? w _ hn
  have hI := pindexf 34 #[.pointer (some ⟨b, 0, none⟩)] eq34 (isN nd) A c l w hr hc (fun x Y hY => clo34 b nd x Y ((hY.below.cell (p := ⟨b, 0, none⟩) zn).trans hn))
  unfold hasN
  generalize idxF (isN nd) l 0 = i at *
  clear hr
  go_enter Try.func33, Try.ntmps33
  go_wp2_with (first | (go_at_call 21; (with_reducible refine hI.mono ?_); rintro e w' ⟨rfl, hg⟩; obtain ⟨n, os, rfl⟩ := hg.out; clear hg))
  go_ret
  exact ⟨ret_bool rfl, (by repeat (first | exact Gr.refl _ | with_reducible apply Gr.alloc | with_reducible apply Gr.grow | with_reducible apply Gr.drewN | with_reducible apply Gr.drew))⟩
set_option maxHeartbeats 4000000 in
theorem pindex (A : Option Addr) (c : Nat) (l : List Nb) (x : Nb) (w : World) (hr : Rd w A l) (hc : l.length ≤ c) :
    Calls Try.prog 60 #[.slice A l.length c, nbV x] w fun e w' => e = .returned (.int .i64 (idxF (nbEq x) l 0)) ∧ Gr w w' := by
  have hl := hr.1
  have HR := Hd.mk hr
  have hm := mixed
  have hg41 := guard41
  clear hr
  generalize hres : idxF (nbEq x) l 0 = res
  have HRes := Hd.mk hres
  clear hres
  obtain ⟨y0, y1, y2, y3, ⟨y4, y5⟩⟩ := x
  simp only [nbV]
  go_enter Try.func60, Try.ntmps60
  go_wp2
  generalize hW : World.alloc _ _ = W
  have HWe := Hd.mk hW
  clear hW
  have GW0 : Gr w W := by rw [← HWe.out]; exact (by repeat (first | exact Gr.refl _ | with_reducible apply Gr.alloc | with_reducible apply Gr.grow | with_reducible apply Gr.drewN | with_reducible apply Gr.drew))
  have g0 : W.cell? ⟨w.heap.size, 0, none⟩ = some (.int .i64 y0) := by rw [← HWe.out]; go_simp
  have g1 : W.cell? ⟨w.heap.size, 1, none⟩ = some (.int .i64 y1) := by rw [← HWe.out]; go_simp
  have g2 : W.cell? ⟨w.heap.size, 2, none⟩ = some (.int .i64 y2) := by rw [← HWe.out]; go_simp
  have g3 : W.cell? ⟨w.heap.size, 3, none⟩ = some (.int .i64 y3) := by rw [← HWe.out]; go_simp
  have g4 : W.cell? ⟨w.heap.size, 4, none⟩ = some (.int .i64 y4) := by rw [← HWe.out]; go_simp
  have g5 : W.cell? ⟨w.heap.size, 5, none⟩ = some (.int .i64 y5) := by rw [← HWe.out]; go_simp
  have zw := World.block_lt_of_cell? W _ g0
  have HG0 := Hd.mk GW0
  clear HWe GW0
  go_loopg [5, 8] l.length (fun gg s5 s8 wr => ∃ k : Nat, k ≤ l.length ∧ l.length - k ≤ gg ∧ s8 = .int .i64 k ∧ Hd (Gr W wr) ∧ Hd (res = idxF (nbEq ⟨y0, y1, y2, y3, ⟨y4, y5⟩⟩) (l.drop k) k))
  case atStart => exact ⟨0, Nat.zero_le _, by omega, rfl, ⟨Gr.refl _⟩, ⟨HRes.out.symm⟩⟩
  case round =>
    obtain ⟨k, hk, hg, rfl, GW, CF⟩ := hrel
    by_cases hlt : k < l.length
    · obtain ⟨b, off, rfl, hb, hcell⟩ := HR.out.2 (by omega)
      obtain ⟨k0, k1, k2, k3, k4, k5⟩ := hcell k hlt
      have hbl := (HG0.out.trans GW.out).below
      have o := fun (q : Nat) => hbl.cell (p := ⟨b, q, none⟩) hb
      rw [← o] at k0 k1 k2 k3 k4 k5
      have o2 := fun (q : Nat) => GW.out.below.cell (p := ⟨w.heap.size, q, none⟩) zw
      rw [← o2] at g0 g1 g2 g3 g4 g5
      have zb : b < wr.heap.size := World.block_lt_of_cell? wr _ k0
      have zv : w.heap.size < wr.heap.size := World.block_lt_of_cell? wr _ g0
      have hltz : (k : Int) < (l.length : Int) := by omega
      have hkz : (0 : Int) ≤ (k : Int) := by omega
      have hyes := idxF_yes (p := nbEq ⟨y0, y1, y2, y3, ⟨y4, y5⟩⟩) hlt
      have hno := idxF_no (p := nbEq ⟨y0, y1, y2, y3, ⟨y4, y5⟩⟩) hlt
      clear o o2 hbl hcell
      generalize nth l k = x at *
      obtain ⟨x0, x1, x2, x3, ⟨x4, x5⟩⟩ := x
      dsimp only at *
      have heq := eqv y0 x0 y1 x1 y2 x2 y3 x3 y4 x4 y5 x5
      generalize nbEq ⟨y0, y1, y2, y3, ⟨y4, y5⟩⟩ ⟨x0, x1, x2, x3, ⟨x4, x5⟩⟩ = q at *
      have HYes := Hd.mk hyes
      have HNo := Hd.mk hno
      clear hyes hno
      cases q with
      | true =>
        go_wp2
        go_quiet (fail)
        go_wp2
        go_ret
        exact ⟨ret_i (by rw [CF.out, HYes.out (by simp)]), (HG0.out.trans GW.out).trans (by repeat (first | exact Gr.refl _ | with_reducible apply Gr.alloc | with_reducible apply Gr.grow | with_reducible apply Gr.drewN | with_reducible apply Gr.drew))⟩
      | false =>
        go_wp2
        go_quiet (fail)
        go_wp2
        go_roundg (l.length - (k + 1))
        case measure => omega
        case rel => exact ⟨k + 1, by omega, by omega, by go_num, ⟨GW.out.trans (by repeat (first | exact Gr.refl _ | with_reducible apply Gr.alloc | with_reducible apply Gr.grow | with_reducible apply Gr.drewN | with_reducible apply Gr.drew))⟩, ⟨by rw [CF.out, HNo.out (by simp)]⟩⟩
    · obtain rfl : k = l.length := by omega
      have hltz : ¬ ((l.length : Int) < (l.length : Int)) := by omega
      go_wp2
      go_ret
      exact ⟨ret_i (by rw [CF.out, idxF_end]), (HG0.out.trans GW.out).trans (by repeat (first | exact Gr.refl _ | with_reducible apply Gr.alloc | with_reducible apply Gr.grow | with_reducible apply Gr.drewN | with_reducible apply Gr.drew))⟩
def inL (x : Nb) (l : List Nb) : Bool := decide (0 ≤ idxF (nbEq x) l 0)
theorem inL_iff (x : Nb) (l : List Nb) : inL x l = true ↔ x ∈ l := by
  unfold inL
  rw [decide_eq_true_eq]
  rcases idxF_spec (nbEq x) l 0 with ⟨e, hn⟩ | ⟨j, hj, e, hp, _⟩
  · rw [e]
    refine ⟨fun h => by omega, fun h => ?_⟩
    have := hn x h
    rw [(nbEq_iff x x).2 rfl] at this
    cases this
  · rw [e]
    refine ⟨fun _ => ?_, fun _ => by omega⟩
    rw [(nbEq_iff _ _).1 hp, nth_eq _ _ hj]
    exact List.getElem_mem hj
theorem pcontains (A : Option Addr) (c : Nat) (l : List Nb) (x : Nb) (w : World) (hr : Rd w A l) (hc : l.length ≤ c) :
    Calls Try.prog 35 #[.slice A l.length c, nbV x] w fun e w' => e = .returned (.bool (inL x l)) ∧ Gr w w' := by
  have hI : ∀ X, Gr w X → _ := fun X h => pindex A c l x X (hr.gr h) hc
  unfold inL
  generalize idxF (nbEq x) l 0 = i at *
  obtain ⟨x0, x1, x2, x3, ⟨x4, x5⟩⟩ := x
  simp only [nbV] at *
  clear hr
  go_enter Try.func35, Try.ntmps35
  go_wp2_with (first | (go_at_call 60; (with_reducible refine (hI _ (by repeat (first | exact Gr.refl _ | with_reducible apply Gr.alloc | with_reducible apply Gr.grow | with_reducible apply Gr.drewN | with_reducible apply Gr.drew))).mono ?_); rintro e w' ⟨rfl, hg⟩; obtain ⟨n, os, rfl⟩ := hg.out; clear hg))
  go_ret
  exact ⟨ret_bool rfl, (by repeat (first | exact Gr.refl _ | with_reducible apply Gr.alloc | with_reducible apply Gr.grow | with_reducible apply Gr.drewN | with_reducible apply Gr.drew))⟩
end Go.Proofs.Ytlifpafnkagofaa.F
