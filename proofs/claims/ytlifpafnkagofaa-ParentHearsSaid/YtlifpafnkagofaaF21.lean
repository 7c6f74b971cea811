import Derived.Test.YtlifpafnkagofaaF20
import Derived.Test.YtlifpafnkagofaaS13
/- parent.Count. -/
namespace Go.Proofs.Ytlifpafnkagofaa.F
open Go.RowKit Go.Sort Go.Proofs.Ytlifpafnkagofaa.B Go.Proofs.Ytlifpafnkagofaa.S
set_option linter.unusedVariables false
set_option linter.unusedSimpArgs false
/-- What an own list of at least one element is, cell by cell. -/
theorem Ow.form {w : World} {base : Nat} {v : Value} {l : List Nb} (h : Ow w base v l) {i : Nat} (hi : i < l.length) :
    ∃ g cap, v = .slice (some ⟨g, 0, none⟩) l.length cap ∧ base ≤ g ∧ g < w.heap.size ∧ l.length ≤ cap ∧ cap ≤ 9223372036854775807 ∧ (∀ k, w.frozen? ⟨g, k, none⟩ = false) ∧ C41 w g (i * 6) (nth l i) := by
  have h' := h
  rcases h.2 with ⟨_, h0⟩ | ⟨g, cap, cur, hv, hb, hg, hn, hm, hs, ht⟩
  · omega
  · subst hv
    have key : ∀ q, q < 6 → w.cell? ⟨g, i * 6 + q, none⟩ = (nbC (nth l i))[q]? := fun q hq => by
      rw [World.ownsRow.cellAt h' (i * 6 + q) (by omega)]
      exact nbsC_at l i q hi hq
    refine ⟨g, cap, rfl, hb, (Array.getElem?_eq_some_iff.1 hg).1, hn, Nat.le_trans hm (by simp [maxLen]), fun k => World.ownsRow.frozenAt h' k, key 0 (by omega), key 1 (by omega), key 2 (by omega), key 3 (by omega), key 4 (by omega), key 5 (by omega)⟩
theorem nb_eta (x : Nb) : x = ⟨x.nd, x.ep, x.ra, x.sl, ⟨x.c.at_, x.c.ak⟩⟩ := rfl
/-- Two cells of an element replaced. -/
theorem nbsC_set2 (l : List Nb) (i : Nat) (hi : i < l.length) (a k : Int) : ((nbsC l).set (i * 6 + 4) (.int .i64 a)).set (i * 6 + 5) (.int .i64 k) = nbsC (l.set i { nth l i with c := ⟨a, k⟩ }) := by
  have e := nbsC_set { nth l i with c := ⟨a, k⟩ } l i hi
  rw [e]
  have same : ∀ (xs : List Value) (j : Nat) (v : Value), xs[j]? = some v → xs.set j v = xs := by
    intro xs j v h
    obtain ⟨hl, hv⟩ := List.getElem?_eq_some_iff.1 h
    rw [← hv, List.set_getElem_self]
  have a0 := nbsC_at l i 0 hi (by omega)
  have a1 := nbsC_at l i 1 hi (by omega)
  have a2 := nbsC_at l i 2 hi (by omega)
  have a3 := nbsC_at l i 3 hi (by omega)
  simp only [nbC, List.getElem?_cons_zero, List.getElem?_cons_succ] at a0 a1 a2 a3
  rw [Nat.add_zero] at a0
  dsimp only
  rw [same _ _ _ a0, same _ _ _ a1, same _ _ _ a2, same _ _ _ a3]
theorem Ow.set2 {w : World} {base g cap : Nat} {l : List Nb} (h : Ow w base (.slice (some ⟨g, 0, none⟩) l.length cap) l) {i : Nat} (hi : i < l.length) (a k : Int) :
    Ow ((w.setCell ⟨g, i * 6 + 4, none⟩ (.int .i64 a)).setCell ⟨g, i * 6 + 5, none⟩ (.int .i64 k)) base (.slice (some ⟨g, 0, none⟩) l.length cap) (l.set i { nth l i with c := ⟨a, k⟩ }) := by
  have h1 := (World.ownsRow.stored h (i * 6 + 4) (.int .i64 a)).1
  have h2 := (World.ownsRow.stored h1 (i * 6 + 5) (.int .i64 k)).1
  rw [nbsC_set2 l i hi] at h2
  unfold Ow
  rw [List.length_set]
  exact h2
theorem set_nth (l : List Nb) (i : Nat) : l.set i (nth l i) = l := by
  rcases Nat.lt_or_ge i l.length with h | h
  · rw [nth_eq l i h, List.set_getElem_self]
  · rw [List.set_eq_of_length_le h]
/-- An own list whose element i has other counts. -/
def Ow2 (w : World) (base g cap : Nat) (l : List Nb) (i : Nat) (a k : Int) : Prop := Ow w base (.slice (some ⟨g, 0, none⟩) l.length cap) (l.set i { nth l i with c := ⟨a, k⟩ })
theorem Ow2.start {w : World} {base g cap : Nat} {l : List Nb} {i : Nat} (h : Ow w base (.slice (some ⟨g, 0, none⟩) l.length cap) l) : Ow2 w base g cap l i (nth l i).c.at_ (nth l i).c.ak := by
  unfold Ow2
  rw [show ({ nth l i with c := ⟨(nth l i).c.at_, (nth l i).c.ak⟩ } : Nb) = nth l i from rfl, set_nth]
  exact h
theorem Ow2.cells {w : World} {base g cap : Nat} {l : List Nb} {i : Nat} (hi : i < l.length) {a k : Int} (h : Ow2 w base g cap l i a k) : w.cell? ⟨g, i * 6 + 5, none⟩ = some (.int .i64 k) ∧ w.cell? ⟨g, i * 6 + 4, none⟩ = some (.int .i64 a) := by
  obtain ⟨g', cap', e, _, _, _, _, _, h6⟩ := Ow.form h (i := i) (by simpa using hi)
  simp only [Value.slice.injEq, Option.some.injEq, Addr.mk.injEq, and_true, true_and] at e
  obtain ⟨rfl, _⟩ := e
  obtain ⟨_, _, _, _, h4, h5⟩ := h6
  rw [nth_eq _ _ (by simpa using hi), List.getElem_set_self] at h4 h5
  exact ⟨h5, h4⟩
theorem Ow2.any {w : World} {base g cap : Nat} {l : List Nb} {i : Nat} (hi : i < l.length) {a k : Int} (h : Ow2 w base g cap l i a k) (a' k' : Int) : Ow2 ((w.setCell ⟨g, i * 6 + 4, none⟩ (.int .i64 a')).setCell ⟨g, i * 6 + 5, none⟩ (.int .i64 k')) base g cap l i a' k' := by
  unfold Ow2 at *
  rw [show (l.length) = (l.set i { nth l i with c := ⟨a, k⟩ }).length by simp] at h
  have := Ow.set2 h (i := i) (by simpa using hi) a' k'
  rw [List.length_set, List.set_set, nth_eq _ _ (by simpa using hi), List.getElem_set_self] at this
  exact this
theorem Ow2.set4 {w : World} {base g cap : Nat} {l : List Nb} {i : Nat} (hi : i < l.length) {a k a' : Int} (h : Ow2 w base g cap l i a k) : Ow2 (w.setCell ⟨g, i * 6 + 4, none⟩ (.int .i64 a')) base g cap l i a' k := by
  have h0 := h
  unfold Ow2 Ow at h0 ⊢
  have hl : (l.set i { nth l i with c := ⟨a, k⟩ }).length = l.length := by simp
  rw [hl] at h0
  have h1 := (World.ownsRow.stored h0 (i * 6 + 4) (.int .i64 a')).1
  have e1 := nbsC_set { nth l i with c := ⟨a, k⟩ } l i hi
  have e2 := nbsC_set { nth l i with c := ⟨a', k⟩ } l i hi
  have e : (nbsC (l.set i { nth l i with c := ⟨a, k⟩ })).set (i * 6 + 4) (.int .i64 a') = nbsC (l.set i { nth l i with c := ⟨a', k⟩ }) := by
    rw [e1, e2]
    rw [List.set_comm _ _ (by omega : i * 6 + 5 ≠ i * 6 + 4), List.set_set]
  rw [e] at h1
  rw [show (l.set i { nth l i with c := ⟨a', k⟩ }).length = l.length by simp]
  exact h1
theorem Ow2.set5 {w : World} {base g cap : Nat} {l : List Nb} {i : Nat} (hi : i < l.length) {a k k' : Int} (h : Ow2 w base g cap l i a k) : Ow2 (w.setCell ⟨g, i * 6 + 4 + 1, none⟩ (.int .i64 k')) base g cap l i a k' := by
  have h0 := h
  unfold Ow2 Ow at h0 ⊢
  have hl : (l.set i { nth l i with c := ⟨a, k⟩ }).length = l.length := by simp
  rw [hl] at h0
  have h1 := (World.ownsRow.stored h0 (i * 6 + 5) (.int .i64 k')).1
  have e1 := nbsC_set { nth l i with c := ⟨a, k⟩ } l i hi
  have e2 := nbsC_set { nth l i with c := ⟨a, k'⟩ } l i hi
  have e : (nbsC (l.set i { nth l i with c := ⟨a, k⟩ })).set (i * 6 + 5) (.int .i64 k') = nbsC (l.set i { nth l i with c := ⟨a, k'⟩ }) := by
    rw [e1, e2, List.set_set]
  rw [e] at h1
  rw [show (l.set i { nth l i with c := ⟨a, k'⟩ }).length = l.length by simp]
  exact h1
theorem Ow2.fin {w : World} {base b0 g cap : Nat} {l : List Nb} {i : Nat} {a k : Int} {c : Ct} (h : Ow2 w base g cap l i a k) (hb : b0 ≤ base) (hc : c = ⟨a, k⟩) : Ow w b0 (.slice (some ⟨g, 0, none⟩) l.length cap) (l.set i { nth l i with c := c }) := by
  subst hc
  obtain ⟨h1, h2⟩ := h
  refine ⟨h1, h2.imp id ?_⟩
  rintro ⟨g, cap, cur, e, hg, r⟩
  exact ⟨g, cap, cur, e, Nat.le_trans hb hg, r⟩
theorem Bl.setCell {w W : World} (h : Bl w W) {g : Nat} (hg : w.heap.size ≤ g) {o : Nat} {v : Value} : Bl w (W.setCell ⟨g, o, none⟩ v) := Below.setCell h hg _
set_option maxHeartbeats 4000000 in
theorem pcount (A : Option Addr) (c : Nat) (l : List Nb) (nd : Int) (ack : Bool) (w : World) (hr : Rd w A l) (hc : l.length ≤ c) :
    Calls Try.prog 26 #[.slice A l.length c, .int .i64 nd, .bool ack] w fun e w' => ∃ v, e = .returned (.tuple #[v, .int .i64 (countS l nd ack).2]) ∧ Ow w' w.heap.size v (countS l nd ack).1 ∧ Bl w w' := by
  have hC : ∀ W, Bl w W → _ := fun W h => pcheck A c l W (hr.bl h) hc
  by_cases h1 : checkL l = 0
  · obtain ⟨h32, hok, hso⟩ := checkL_ok h1
    have hF : ∀ W, Bl w W → _ := fun W h => pfind A c l nd W (hr.bl h) hc hso h32
    have hL : ∀ W, Bl w W → _ := fun W h => pclone A c l W (hr.bl h) hc (by omega)
    rw [h1] at hC
    cases hf : foundS l nd with
    | false =>
      have hs : countS l nd ack = ([], 7) := by unfold countS; rw [if_neg (by omega), if_pos hf]
      rw [hs]
      rw [hf] at hF
      clear hr h1 hok hso hs hf hL
      go_enter Try.func26, Try.ntmps26
      go_wp2_with (first | (go_at_call 17; (with_reducible refine (hC _ (by repeat (first | exact Bl.refl _ | with_reducible apply Bl.alloc | with_reducible apply Bl.grow | with_reducible apply Bl.sd | with_reducible apply Bl.drewN | with_reducible apply Bl.drew))).mono ?_); rintro e w' ⟨rfl, hg⟩; obtain ⟨n, os, rfl⟩ := hg.out; clear hg) | (go_at_call 43; (with_reducible refine (hF _ (by repeat (first | exact Bl.refl _ | with_reducible apply Bl.alloc | with_reducible apply Bl.grow | with_reducible apply Bl.sd | with_reducible apply Bl.drewN | with_reducible apply Bl.drew))).mono ?_); rintro e w' ⟨rfl, hg⟩; obtain ⟨n, os, rfl⟩ := hg.out; clear hg))
      refine bodyPost_ret (v := .tuple #[.slice none 0 0, .int .i64 7]) (by simp [results, Try.results26, go_sem]) rfl ⟨_, rfl, Ow.nil _ _, (by repeat (first | exact Bl.refl _ | with_reducible apply Bl.alloc | with_reducible apply Bl.grow | with_reducible apply Bl.sd | with_reducible apply Bl.drewN | with_reducible apply Bl.drew))⟩
    | true =>
      have hs : countS l nd ack = (countL l nd ack, 0) := by unfold countS; rw [if_neg (by omega), if_neg (by rw [hf]; decide)]
      rw [hs]
      have hlt := found_lt hf
      have hci := (okN_iff _).1 (hok _ hlt)
      rw [hf] at hF
      have hcl : countL l nd ack = l.set (lowS l nd) { nth l (lowS l nd) with c := countC (nth l (lowS l nd)).c ack } := rfl
      rw [hcl]
      clear hr h1 hok hso hs hf hcl
      generalize lowS l nd = i at *
      have hltz : (i : Int) < (l.length : Int) := by omega
      go_enter Try.func26, Try.ntmps26
      go_wp2_with (first | (go_at_call 17; (with_reducible refine (hC _ (by repeat (first | exact Bl.refl _ | with_reducible apply Bl.alloc | with_reducible apply Bl.grow | with_reducible apply Bl.sd | with_reducible apply Bl.drewN | with_reducible apply Bl.drew))).mono ?_); rintro e w' ⟨rfl, hg⟩; obtain ⟨n, os, rfl⟩ := hg.out; clear hg) | (go_at_call 43; (with_reducible refine (hF _ (by repeat (first | exact Bl.refl _ | with_reducible apply Bl.alloc | with_reducible apply Bl.grow | with_reducible apply Bl.sd | with_reducible apply Bl.drewN | with_reducible apply Bl.drew))).mono ?_); rintro e w' ⟨rfl, hg⟩; obtain ⟨n, os, rfl⟩ := hg.out; clear hg) | (go_at_call 58; (with_reducible refine (hL _ (by repeat (first | exact Bl.refl _ | with_reducible apply Bl.alloc | with_reducible apply Bl.grow | with_reducible apply Bl.sd | with_reducible apply Bl.drewN | with_reducible apply Bl.drew))).mono ?_); rintro e w' ⟨v, rfl, hown, hbl⟩; obtain ⟨g, cap, rfl, hg, hgw, hcap, hcm, hfz, k0, k1, k2, k3, k4, k5⟩ := hown.form hlt))
      all_goals
        have hgb : w.heap.size ≤ g := by have := hg; simp at this; omega
        refine bodyPost_ret (v := .tuple #[.slice (some ⟨g, 0, none⟩) l.length cap, .int .i64 0]) (by simp [results, Try.results26, go_sem]) rfl ⟨_, rfl, ?_, (by repeat (first | with_reducible refine Bl.setCell ?_ hgb | exact Bl.trans (by repeat (first | exact Bl.refl _ | with_reducible apply Bl.alloc | with_reducible apply Bl.grow | with_reducible apply Bl.sd | with_reducible apply Bl.drewN | with_reducible apply Bl.drew)) hbl))⟩
        apply Ow2.fin
        · repeat (first | apply Ow2.set5 hlt | apply Ow2.set4 hlt | exact Ow2.start hown)
        · first | omega | (simp; done) | (simp; omega)
        · simp_all [countC, halfC]
  · have hs : countS l nd ack = ([], 1) := by unfold countS; rw [if_pos h1]
    rw [hs]
    clear hr hs
    go_enter Try.func26, Try.ntmps26
    go_wp2_with (first | (go_at_call 17; (with_reducible refine (hC _ (by repeat (first | exact Bl.refl _ | with_reducible apply Bl.alloc | with_reducible apply Bl.grow | with_reducible apply Bl.sd | with_reducible apply Bl.drewN | with_reducible apply Bl.drew))).mono ?_); rintro e w' ⟨rfl, hg⟩; obtain ⟨n, os, rfl⟩ := hg.out; clear hg))
    refine bodyPost_ret (v := .tuple #[.slice none 0 0, .int .i64 1]) (by simp [results, Try.results26, go_sem]) rfl ⟨_, rfl, Ow.nil _ _, (by repeat (first | exact Bl.refl _ | with_reducible apply Bl.alloc | with_reducible apply Bl.grow | with_reducible apply Bl.sd | with_reducible apply Bl.drewN | with_reducible apply Bl.drew))⟩
end Go.Proofs.Ytlifpafnkagofaa.F
