import Derived.Test.YtlifpafnkagofaaF23
/- hopmeshref23.Count. -/
namespace Go.Proofs.Ytlifpafnkagofaa.F
open Go.RowKit Go.Sort Go.Proofs.Ytlifpafnkagofaa.B Go.Proofs.Ytlifpafnkagofaa.S
set_option linter.unusedVariables false
set_option linter.unusedSimpArgs false
theorem Ow2.alloc {w : World} {base g cap : Nat} {l : List Nb} {i : Nat} {a k : Int} (h : Ow2 w base g cap l i a k) {o : Obj} : Ow2 (w.alloc o) base g cap l i a k := Ow.bl h ((Bl.refl w).alloc o)
theorem made_at (X : World) (n base : Nat) (h : n = X.heap.size) (hb : base ≤ n) : (X.alloc (.cells #[] 41)).ownsRow base 41 6 (.slice (some ⟨n, 0, none⟩) 0 0) 0 [] := by
  subst h
  exact World.ownsRow_made X #[] 0 hb (Nat.zero_le _) (by simp)
set_option maxHeartbeats 4000000 in
theorem xcount (A : Option Addr) (c : Nat) (l : List Nb) (nd : Int) (ack : Bool) (w : World) (hr : Rd w A l) (hc : l.length ≤ c) :
    Calls Try.prog 27 #[.slice A l.length c, .int .i64 nd, .bool ack] w fun e w' => ∃ v, e = .returned (.tuple #[v, .int .i64 (countS l nd ack).2]) ∧ Ow w' w.heap.size v (countS l nd ack).1 ∧ Bl w w' := by
  obtain ⟨i0, hi, hz0, hz1, hz2⟩ := info_of infoE
  have hC : ∀ W, Bl w W → _ := fun W h => qcheck A c l W (hr.bl h) hc
  by_cases h1 : checkL l = 0
  · obtain ⟨h32, hok, hso⟩ := checkL_ok h1
    have hF : ∀ W, Bl w W → _ := fun W h => qindex A c l nd W (hr.bl h) hc hso
    unfold indexS at hF
    rw [h1] at hC
    cases hf : foundS l nd with
    | false =>
      have hs : countS l nd ack = ([], 7) := by unfold countS; rw [if_neg (by omega), if_pos hf]
      rw [hs]
      rw [hf, if_neg (by decide)] at hF
      clear hr h1 hok hso hs hf
      go_enter Try.func27, Try.ntmps27
      go_wp2_with (first | (go_at_call 28; (with_reducible refine (hC _ (by repeat (first | exact Bl.refl _ | with_reducible apply Bl.alloc | with_reducible apply Bl.grow | with_reducible apply Bl.sd | with_reducible apply Bl.drewN | with_reducible apply Bl.drew))).mono ?_); rintro e w' ⟨rfl, hg⟩; obtain ⟨n, os, rfl⟩ := hg.out; clear hg) | (go_at_call 47; (with_reducible refine (hF _ (by repeat (first | exact Bl.refl _ | with_reducible apply Bl.alloc | with_reducible apply Bl.grow | with_reducible apply Bl.sd | with_reducible apply Bl.drewN | with_reducible apply Bl.drew))).mono ?_); rintro e w' ⟨rfl, rfl⟩))
      exact bodyPost_ret (v := .tuple #[.slice none 0 0, .int .i64 7]) (by simp [results, Try.results27, go_sem]) rfl ⟨_, rfl, Ow.nil _ _, (by repeat (first | exact Bl.refl _ | with_reducible apply Bl.alloc | with_reducible apply Bl.grow | with_reducible apply Bl.sd | with_reducible apply Bl.drewN | with_reducible apply Bl.drew))⟩
    | true =>
      have hs : countS l nd ack = (countL l nd ack, 0) := by unfold countS; rw [if_neg (by omega), if_neg (by rw [hf]; decide)]
      rw [hs]
      have hlt := found_lt hf
      have hci := (okN_iff _).1 (hok _ hlt)
      rw [hf, if_pos rfl] at hF
      have hcl : countL l nd ack = l.set (lowS l nd) { nth l (lowS l nd) with c := countC (nth l (lowS l nd)).c ack } := rfl
      rw [hcl]
      obtain ⟨b, off, rfl, hb, _⟩ := hr.2 (by omega)
      have hcell := hr.cells _ rfl
      have hcells : ∀ W, Bl w W → ∀ j u, (nbsC l)[j]? = some u → W.cell? ((⟨b, off, none⟩ : Addr).add j) = some u := fun W h j u hj => (Below.cell h (World.block_lt_of_cell? w _ (hcell j u hj))).trans (hcell j u hj)
      have HCells := Hd.mk hcells
      have hlen := nbsC_len l
      have hone := nbsC_one l
      clear hr h1 hok hso hs hf hcl hcell hcells
      generalize lowS l nd = i at *
      have hltz : (i : Int) < (l.length : Int) := by omega
      have hiz : (0 : Int) ≤ (i : Int) := by omega
      go_enter Try.func27, Try.ntmps27
      go_wp2_with (first | (go_at_call 28; (with_reducible refine (hC _ (by repeat (first | exact Bl.refl _ | with_reducible apply Bl.alloc | with_reducible apply Bl.grow | with_reducible apply Bl.sd | with_reducible apply Bl.drewN | with_reducible apply Bl.drew))).mono ?_); rintro e w' ⟨rfl, hg⟩; obtain ⟨n, os, rfl⟩ := hg.out; clear hg) | (go_at_call 47; (with_reducible refine (hF _ (by repeat (first | exact Bl.refl _ | with_reducible apply Bl.alloc | with_reducible apply Bl.grow | with_reducible apply Bl.sd | with_reducible apply Bl.drewN | with_reducible apply Bl.drew))).mono ?_); rintro e w' ⟨rfl, rfl⟩) | (at_builtin; (refine wpList_append_own_at _ rfl _ _ 22 rfl w.heap.size 41 i0 _ 6 48 Try.underlying22 hi hz0 hz1 hz2 rfl (by decide) _ _ _ rfl (made_at _ _ _ (by simp [go_sem]) (by omega)) ⟨b, off, none⟩ l.length c (nbsC l) rfl hlen (HCells.out _ (by repeat (first | exact Bl.refl _ | with_reducible apply Bl.alloc | with_reducible apply Bl.grow | with_reducible apply Bl.sd | with_reducible apply Bl.drewN | with_reducible apply Bl.drew))) hone (by simp only [maxLen]; omega) (by omega) (by first | (simp [go_sem]; done) | (simp [go_sem]; omega)) ?_)))
      intro v1 w1 hown1 hgr1 _ _
      have hb1 : Bl w w1 := Bl.grown (by repeat (first | exact Bl.refl _ | with_reducible apply Bl.alloc | with_reducible apply Bl.grow | with_reducible apply Bl.sd | with_reducible apply Bl.drewN | with_reducible apply Bl.drew)) hgr1 (by intro k hk; simp [Value.ownBlock, go_sem] at hk; omega)
      have hown : Ow w1 w.heap.size v1 l := by unfold Ow; simpa using hown1
      obtain ⟨g, cap, rfl, hg, hgw, hcap, hcm, hfz, k0, k1, k2, k3, k4, k5⟩ := hown.form hlt
      have HOwn := Hd.mk hown
      have HB1 := Hd.mk hb1
      clear hown1 hgr1 hown hb1
      go_wp2
      all_goals
        refine bodyPost_ret (v := .tuple #[.slice (some ⟨g, 0, none⟩) l.length cap, .int .i64 0]) (by simp [results, Try.results27, go_sem]) rfl ⟨_, rfl, ?_, (by repeat (first | with_reducible refine Bl.setCell ?_ hg | with_reducible refine Bl.alloc ?_ _ | exact HB1.out))⟩
        apply Ow2.fin
        · repeat (first | apply Ow2.alloc | apply Ow2.set5 hlt | apply Ow2.set4 hlt | exact Ow2.start HOwn.out)
        · first | omega | (simp; done) | (simp; omega)
        · simp_all [countC, halfC]
  · have hs : countS l nd ack = ([], 1) := by unfold countS; rw [if_pos h1]
    rw [hs]
    clear hr hs
    go_enter Try.func27, Try.ntmps27
    go_wp2_with (first | (go_at_call 28; (with_reducible refine (hC _ (by repeat (first | exact Bl.refl _ | with_reducible apply Bl.alloc | with_reducible apply Bl.grow | with_reducible apply Bl.sd | with_reducible apply Bl.drewN | with_reducible apply Bl.drew))).mono ?_); rintro e w' ⟨rfl, hg⟩; obtain ⟨n, os, rfl⟩ := hg.out; clear hg))
    exact bodyPost_ret (v := .tuple #[.slice none 0 0, .int .i64 1]) (by simp [results, Try.results27, go_sem]) rfl ⟨_, rfl, Ow.nil _ _, (by repeat (first | exact Bl.refl _ | with_reducible apply Bl.alloc | with_reducible apply Bl.grow | with_reducible apply Bl.sd | with_reducible apply Bl.drewN | with_reducible apply Bl.drew))⟩
end Go.Proofs.Ytlifpafnkagofaa.F
