import Derived.Test.YtcknakbjiklklaaF17
/- The law's own example. -/
namespace Go.Proofs.Ytcknakbjiklklaa.F
open Go.RowKit Go.Sort Go.Proofs.Ytcknakbjiklklaa.B Go.Proofs.Ytcknakbjiklklaa.S
set_option linter.unusedVariables false
set_option linter.unusedSimpArgs false
def exS : List SC := [⟨0, 1, 1, 0, 5⟩, ⟨2, 0, 0, 2, 5⟩]
def exT : List TC := [⟨0, 1, 1, false, 1, 5⟩, ⟨2, 0, 1, true, 2, 5⟩]
theorem ex_of1 : (ofS 4 2 exS 0).1.n = 0 ∧ (ofS 4 2 exS 0).1.len = 4 ∧ (ofS 4 2 exS 0).1.l = exT ∧ (ofS 4 2 exS 0).2 = 0 := by decide +kernel
theorem ex_mask : maskS 4 2 exS = ([1, 3, 2, 3], 0) := by decide +kernel
theorem ex_at : (atS 0 4 exT 6).1 = ⟨2, 0, 1, true, 2, 5⟩ ∧ (atS 0 4 exT 6).2 = true := by decide +kernel
theorem ex_cand : candS 0 4 exT [1, 3, 2, 3] 9 = [⟨1, 0⟩, ⟨3, 0⟩] := by decide +kernel
set_option maxHeartbeats 4000000 in
theorem example_ (w : World) : Calls Try.prog 41 #[] w fun e w' => ∃ b, e = .returned (.agg #[.int .i64 4, .int .i64 2, .slice (some ⟨b, 0, none⟩) 2 2]) ∧ RdS w' (some ⟨b, 0, none⟩) exS ∧ Bl w w' := by
  go_enter Try.func41, Try.ntmps41
  go_wp2
  refine ⟨rfl, _, by simp [results, Try.results41, go_sem]; (repeat' first | rfl | apply And.intro), ⟨_, rfl, ⟨by simp [exS], fun _ => ⟨_, _, rfl, ?_, ?_⟩⟩, (by repeat (first | exact Bl.refl _ | with_reducible apply Bl.alloc | with_reducible apply Bl.grow | with_reducible apply Bl.sd | with_reducible apply Bl.drewN | with_reducible apply Bl.drew))⟩⟩
  · first | (go_simp; done) | (simp [go_sem]; omega)
  · intro j hj
    simp only [exS, List.length_cons, List.length_nil] at hj
    match j, hj with
    | 0, _ => exact ⟨by go_simp; rfl, by go_simp; rfl, by go_simp; rfl, by go_simp; rfl, by go_simp; rfl⟩
    | 1, _ => exact ⟨by go_simp; rfl, by go_simp; rfl, by go_simp; rfl, by go_simp; rfl, by go_simp; rfl⟩
theorem of_ex (b : Nat) (W : World) (h : RdS W (some ⟨b, 0, none⟩) exS) : Calls Try.prog 16 #[.agg #[.int .i64 4, .int .i64 2, .slice (some ⟨b, 0, none⟩) 2 2], .int .i64 0] W fun e w' => ∃ A c, e = .returned (.tuple #[.agg #[.int .i64 0, .int .i64 4, .slice A 2 c], .int .i64 0]) ∧ Rd w' A exT ∧ 2 ≤ c ∧ Bl W w' := by
  refine (tof 4 2 0 (some ⟨b, 0, none⟩) 2 exS W h (Nat.le_refl _)).mono fun e w' ⟨v, e1, e2, e3⟩ => ?_
  obtain ⟨h1, h2, h3, h4⟩ := ex_of1
  rw [h1, h2, h4] at e1
  rw [h3] at e2
  obtain ⟨A, c, rfl, hc, hr⟩ := e2.rd
  exact ⟨A, c, e1, hr, hc, e3⟩
theorem mask_ex (b : Nat) (W : World) (h : RdS W (some ⟨b, 0, none⟩) exS) : Calls Try.prog 18 #[.agg #[.int .i64 4, .int .i64 2, .slice (some ⟨b, 0, none⟩) 2 2]] W fun e w' => ∃ A c, e = .returned (.tuple #[.slice A 4 c, .int .i64 0]) ∧ RdI w' A [1, 3, 2, 3] ∧ 4 ≤ c ∧ Bl W w' := by
  refine (tmask 4 2 (some ⟨b, 0, none⟩) 2 exS W h (Nat.le_refl _)).mono fun e w' ⟨v, e1, e2, e3⟩ => ?_
  rw [ex_mask] at e1 e2
  obtain ⟨A, c, rfl, hc, hr⟩ := e2.rd
  exact ⟨A, c, e1, hr, hc, e3⟩
theorem at_ex (A : Option Addr) (c : Nat) (W : World) (h : Rd W A exT) (hc : 2 ≤ c) : Calls Try.prog 25 #[.agg #[.int .i64 0, .int .i64 4, .slice A 2 c], .int .i64 6] W fun e w' => e = .returned (.tuple #[.agg #[.int .i64 2, .int .i64 0, .int .i64 1, .bool true, .int .i64 2, .int .i64 5], .bool true]) ∧ Bl W w' := by
  refine (tat 0 4 A c exT 6 W h hc).mono fun e w' ⟨e1, e2⟩ => ⟨?_, e2⟩
  rw [ex_at.1, ex_at.2] at e1
  exact e1
theorem cand_ex (A B : Option Addr) (c d : Nat) (W : World) (h : Rd W A exT) (hc : 2 ≤ c) (hB : RdI W B [1, 3, 2, 3]) (hd : 4 ≤ d) : Calls Try.prog 33 #[.agg #[.int .i64 0, .int .i64 4, .slice A 2 c], .slice B 4 d, .int .i64 9] W fun e w' => ∃ A c, e = .returned (.slice A 2 c) ∧ RdP w' A [⟨1, 0⟩, ⟨3, 0⟩] ∧ 2 ≤ c ∧ Bl W w' := by
  refine (tcand 0 4 A c exT B d [1, 3, 2, 3] 9 W h hc hB hd).mono fun e w' ⟨v, e1, e2, e3⟩ => ?_
  rw [ex_cand] at e2
  obtain ⟨A, c, rfl, hc, hr⟩ := e2.rd
  exact ⟨A, c, e1, hr, hc, e3⟩
theorem eq_ex (A B : Option Addr) (c d : Nat) (W : World) (ha : RdI W A [1, 3, 2, 3]) (hb : RdI W B [1, 3, 2, 3]) (hc : 4 ≤ c) (hd : 4 ≤ d) : Calls Try.prog 21 #[.slice A 4 c, .slice B 4 d] W fun e w' => e = .returned (.bool true) ∧ Gr W w' :=
  (feq A B c d [1, 3, 2, 3] [1, 3, 2, 3] W ha hb hc hd).mono fun e w' h => by simpa using h
theorem eqp_ex (A B : Option Addr) (c d : Nat) (W : World) (ha : RdP W A [⟨1, 0⟩, ⟨3, 0⟩]) (hb : RdP W B [⟨1, 0⟩, ⟨3, 0⟩]) (hc : 2 ≤ c) (hd : 2 ≤ d) : Calls Try.prog 32 #[.slice A 2 c, .slice B 2 d] W fun e w' => e = .returned (.bool true) ∧ Gr W w' :=
  (peq A B c d [⟨1, 0⟩, ⟨3, 0⟩] [⟨1, 0⟩, ⟨3, 0⟩] W ha hb hc hd).mono fun e w' h => by simpa using h
theorem rdI_new (X : World) (n : Nat) (h : n = X.heap.size) : RdI (X.alloc (.cells #[.int .i64 1, .int .i64 3, .int .i64 2, .int .i64 3] 3)) (some ⟨n, 0, none⟩) [1, 3, 2, 3] := by
  have hn := news_alloc X #[.int .i64 1, .int .i64 3, .int .i64 2, .int .i64 3] 3 n h
  refine ⟨by simp, fun _ => ⟨n, 0, rfl, by subst h; simp [go_sem], fun j hj => ?_⟩⟩
  rw [show (⟨n, 0 + j, none⟩ : Addr) = (⟨n, 0, none⟩ : Addr).add j by rw [Addr.add_lit]]
  apply hn
  simp only [List.length_cons, List.length_nil] at hj
  match j, hj with
  | 0, _ => rfl
  | 1, _ => rfl
  | 2, _ => rfl
  | 3, _ => rfl
theorem rdP_new (X : World) (n : Nat) (h : n = X.heap.size) : RdP (X.alloc (.cells #[.int .i64 1, .int .i64 0, .int .i64 3, .int .i64 0] 55)) (some ⟨n, 0, none⟩) [⟨1, 0⟩, ⟨3, 0⟩] := by
  have hn := news_alloc X #[.int .i64 1, .int .i64 0, .int .i64 3, .int .i64 0] 55 n h
  have key : ∀ j u, [Value.int .i64 1, .int .i64 0, .int .i64 3, .int .i64 0][j]? = some u → (X.alloc (.cells #[.int .i64 1, .int .i64 0, .int .i64 3, .int .i64 0] 55)).cell? ⟨n, 0 + j, none⟩ = some u := fun j u hj => by
    rw [show (⟨n, 0 + j, none⟩ : Addr) = (⟨n, 0, none⟩ : Addr).add j by rw [Addr.add_lit]]
    exact hn j u hj
  refine ⟨by simp, fun _ => ⟨n, 0, rfl, by subst h; simp [go_sem], fun j hj => ?_⟩⟩
  simp only [List.length_cons, List.length_nil] at hj
  match j, hj with
  | 0, _ => exact ⟨key 0 _ rfl, key 1 _ rfl⟩
  | 1, _ => exact ⟨key 2 _ rfl, key 3 _ rfl⟩
set_option maxHeartbeats 4000000 in
set_option maxRecDepth 100000 in
theorem awake_ (w : World) : Calls Try.prog 11 #[] w fun e w' => e = .returned (.bool true) ∧ Bl w w' := by
  go_enter Try.func11, Try.ntmps11
  go_wp2_with fail
  refine (example_ _).mono ?_
  rintro e W1 ⟨b1, rfl, r1, h1⟩
  go_wp2_with fail
  refine (of_ex b1 _ r1).mono ?_
  rintro e W2 ⟨A, c, rfl, rT, hc, h2⟩
  have H2 := Hd.mk (h1.trans h2)
  have RT := Hd.mk rT
  clear h1 h2 r1 rT
  go_wp2_with fail
  refine (example_ _).mono ?_
  rintro e W3 ⟨b3, rfl, r3, h3⟩
  have t0 : W3.cell? ⟨W2.heap.size, 0, none⟩ = some (.int .i64 0) := (Below.cell h3 (p := ⟨W2.heap.size, 0, none⟩) (by simp [go_sem])).trans (by go_simp)
  have t1 : W3.cell? ⟨W2.heap.size, 1, none⟩ = some (.int .i64 4) := (Below.cell h3 (p := ⟨W2.heap.size, 1, none⟩) (by simp [go_sem])).trans (by go_simp)
  have t2 : W3.cell? ⟨W2.heap.size, 2, none⟩ = some (.slice A 2 c) := (Below.cell h3 (p := ⟨W2.heap.size, 2, none⟩) (by simp [go_sem])).trans (by go_simp)
  have h3' : Bl W2 W3 := Bl.trans (by repeat (first | with_reducible exact Bl.refl _ | with_reducible apply Bl.alloc | with_reducible apply Bl.grow | with_reducible apply Bl.sd | with_reducible apply Bl.drewN | with_reducible apply Bl.drew)) h3
  have z3 := World.block_lt_of_cell? W3 _ t0
  dsimp only at z3
  generalize W2.heap.size = d at *
  have H3 := Hd.mk (H2.out.trans h3')
  have RT3 := Hd.mk (RT.out.bl h3')
  have R3 := Hd.mk r3
  clear h3 h3' r3 RT H2
  go_wp2_with fail
  refine (mask_ex b3 _ R3.out).mono ?_
  rintro e W4 ⟨B, cb, rfl, rM, hcb, h4⟩
  have s0 := (Below.cell h4 (p := ⟨d, 0, none⟩) z3).trans t0
  have s1 := (Below.cell h4 (p := ⟨d, 1, none⟩) z3).trans t1
  have s2 := (Below.cell h4 (p := ⟨d, 2, none⟩) z3).trans t2
  have z4 := World.block_lt_of_cell? W4 _ s0
  dsimp only at z4
  have H4 := Hd.mk (H3.out.trans h4)
  have RT4 := Hd.mk (RT3.out.bl h4)
  have RM4 := Hd.mk rM
  clear h4 rM RT3 H3 t0 t1 t2 z3 R3
  go_wp2_with fail
  refine (at_ex A c _ RT4.out hc).mono ?_
  rintro e W5 ⟨rfl, h5⟩
  have q0 := (Below.cell h5 (p := ⟨d, 0, none⟩) z4).trans s0
  have q1 := (Below.cell h5 (p := ⟨d, 1, none⟩) z4).trans s1
  have q2 := (Below.cell h5 (p := ⟨d, 2, none⟩) z4).trans s2
  have z5 := World.block_lt_of_cell? W5 _ q0
  dsimp only at z5
  have H5 := Hd.mk (H4.out.trans h5)
  have RT5 := Hd.mk (RT4.out.bl h5)
  have RM5 := Hd.mk (RdI.bl RM4.out h5)
  clear h5 RM4 RT4 H4 s0 s1 s2 z4
  have heq := fun W => eq43 W 2 2 0 0 1 1 true true 2 2 5 5
  have hg43 := guard43
  simp only [beq_self_eq_true, Bool.and_self] at heq
  go_wp2_with fail
  refine (eq_ex B (some ⟨W5.heap.size + 1, 0, none⟩) cb 4 _ (RdI.bl RM5.out (by repeat (first | with_reducible exact Bl.refl _ | with_reducible apply Bl.alloc | with_reducible apply Bl.grow | with_reducible apply Bl.sd | with_reducible apply Bl.drewN | with_reducible apply Bl.drew))) (rdI_new _ _ (by simp [go_sem])) hcb (by omega)).mono ?_
  rintro e w' ⟨rfl, hg⟩; obtain ⟨n, os, rfl⟩ := hg.out; clear hg
  go_wp2_with fail
  refine (cand_ex A B c cb _ (RT5.out.bl (by repeat (first | with_reducible exact Bl.refl _ | with_reducible apply Bl.alloc | with_reducible apply Bl.grow | with_reducible apply Bl.sd | with_reducible apply Bl.drewN | with_reducible apply Bl.drew))) hc (RdI.bl RM5.out (by repeat (first | with_reducible exact Bl.refl _ | with_reducible apply Bl.alloc | with_reducible apply Bl.grow | with_reducible apply Bl.sd | with_reducible apply Bl.drewN | with_reducible apply Bl.drew))) hcb).mono ?_
  rintro e W6 ⟨C, cc, rfl, rP, hcc, h6⟩
  have H6 := Hd.mk (H5.out.trans (Bl.trans (by repeat (first | with_reducible exact Bl.refl _ | with_reducible apply Bl.alloc | with_reducible apply Bl.grow | with_reducible apply Bl.sd | with_reducible apply Bl.drewN | with_reducible apply Bl.drew)) h6))
  have RP := Hd.mk rP
  clear h6 rP
  go_wp2_with fail
  refine (eqp_ex C (some ⟨W6.heap.size, 0, none⟩) cc 2 _ (RdP.bl RP.out (by repeat (first | with_reducible exact Bl.refl _ | with_reducible apply Bl.alloc | with_reducible apply Bl.grow | with_reducible apply Bl.sd | with_reducible apply Bl.drewN | with_reducible apply Bl.drew))) (rdP_new _ _ (by simp [go_sem])) hcc (by omega)).mono ?_
  rintro e w' ⟨rfl, hg⟩; obtain ⟨n, os, rfl⟩ := hg.out; clear hg
  go_wp2
  go_ret
  exact ⟨rfl, H6.out.trans (by repeat (first | with_reducible exact Bl.refl _ | with_reducible apply Bl.alloc | with_reducible apply Bl.grow | with_reducible apply Bl.sd | with_reducible apply Bl.drewN | with_reducible apply Bl.drew))⟩
end Go.Proofs.Ytcknakbjiklklaa.F
