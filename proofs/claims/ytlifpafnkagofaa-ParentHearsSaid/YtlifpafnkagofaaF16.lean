import Derived.Test.YtlifpafnkagofaaF15
import Derived.Test.YtlifpafnkagofaaF3
import Derived.Test.YtlifpafnkagofaaF11
import Derived.Test.YtlifpafnkagofaaS7
import Derived.Deep.DeepCutAuto
namespace Go.Proofs.Ytlifpafnkagofaa.F
open Go.RowKit Go.Sort Go.Proofs.Ytlifpafnkagofaa.B Go.Proofs.Ytlifpafnkagofaa.S
set_option linter.unusedVariables false
set_option linter.unusedSimpArgs false
theorem ret_sel {r : Rk × Bool × Int} {a0 a1 a2 a3 a4 a5 e : Int} {b : Bool} (h : r = (⟨a0, a1, a2, a3, a4, a5⟩, b, e)) : Ending.returned (.tuple #[.agg #[.int .i64 a0, .int .i64 a1, .int .i64 a2, .int .i64 a3, .int .i64 a4, .int .i64 a5], .bool b, .int .i64 e]) = .returned (.tuple #[vR r.1, .bool r.2.1, .int .i64 r.2.2]) := by rw [h]; rfl
set_option maxHeartbeats 4000000 in
theorem pselect_early (A : Option Addr) (c : Nat) (l : List Nb) (a0 a1 a2 a3 a4 a5 mg : Int) (w : World) (hr : Rd w A l) (hc : l.length ≤ c)
    (hearly : ¬ (checkL l = 0 ∧ checkR ⟨a0, a1, a2, a3, a4, a5⟩ = 0 ∧ win mg 0 65535 = true ∧ a0 ≠ 0)) :
    Calls Try.prog 15 #[.slice A l.length c, .agg #[.int .i64 a0, .int .i64 a1, .int .i64 a2, .int .i64 a3, .int .i64 a4, .int .i64 a5], .int .i64 mg] w fun e w' =>
      e = .returned (.tuple #[vR (selectS ⟨a0, a1, a2, a3, a4, a5⟩ l mg).1, .bool (selectS ⟨a0, a1, a2, a3, a4, a5⟩ l mg).2.1, .int .i64 (selectS ⟨a0, a1, a2, a3, a4, a5⟩ l mg).2.2]) ∧ Bl w w' := by
  have hm := mixed
  have HC : ∀ W, Gr w W → _ := fun W h => pcheck A c l W (hr.gr h) hc
  have HQ := rcheck a0 a1 a2 a3 a4 a5
  by_cases h1 : checkL l = 0
  · by_cases h2 : checkR ⟨a0, a1, a2, a3, a4, a5⟩ = 0
    · by_cases h3 : win mg 0 65535 = true
      · obtain rfl : a0 = 0 := by
          by_cases h4 : a0 = 0
          · exact h4
          · exact absurd ⟨h1, h2, h3, h4⟩ hearly
        have HS := Hd.mk (sel_root (mg := mg) ⟨h1, h2⟩ h3 rfl)
        have HW := pwithin mg 0 65535
        rw [h1] at HC; rw [h2] at HQ; rw [h3] at HW
        clear hr hearly h1 h2 h3
        go_enter Try.func15, Try.ntmps15
        go_wp2_with (first | (go_at_call 17; (with_reducible refine (HC _ (by repeat (first | exact Gr.refl _ | with_reducible apply Gr.alloc | with_reducible apply Gr.grow | with_reducible apply Gr.drewN | with_reducible apply Gr.drew))).mono ?_); rintro e w' ⟨rfl, hg⟩; obtain ⟨n, os, rfl⟩ := hg.out; clear hg) | (go_at_call 18; (with_reducible refine (HQ _).mono ?_); rintro e w' ⟨rfl, hg⟩; obtain ⟨n, os, rfl⟩ := hg.out; clear hg) | (go_at_call 42; (with_reducible refine (HW _).mono ?_); rintro e w' ⟨rfl, rfl⟩))
        refine ⟨rfl, _, by simp [results, Try.results15, go_sem]; (repeat' first | rfl | apply And.intro), ret_sel HS.out, (by repeat (first | exact Bl.refl _ | with_reducible apply Bl.alloc | with_reducible apply Bl.grow | with_reducible apply Bl.sd | with_reducible apply Bl.drewN | with_reducible apply Bl.drew))⟩
      · have h3 : win mg 0 65535 = false := by simpa using h3
        have HS := Hd.mk (sel_rng ⟨h1, h2⟩ h3)
        have HW := pwithin mg 0 65535
        rw [h1] at HC; rw [h2] at HQ; rw [h3] at HW
        clear hr hearly h1 h2 h3
        go_enter Try.func15, Try.ntmps15
        go_wp2_with (first | (go_at_call 17; (with_reducible refine (HC _ (by repeat (first | exact Gr.refl _ | with_reducible apply Gr.alloc | with_reducible apply Gr.grow | with_reducible apply Gr.drewN | with_reducible apply Gr.drew))).mono ?_); rintro e w' ⟨rfl, hg⟩; obtain ⟨n, os, rfl⟩ := hg.out; clear hg) | (go_at_call 18; (with_reducible refine (HQ _).mono ?_); rintro e w' ⟨rfl, hg⟩; obtain ⟨n, os, rfl⟩ := hg.out; clear hg) | (go_at_call 42; (with_reducible refine (HW _).mono ?_); rintro e w' ⟨rfl, rfl⟩))
        refine ⟨rfl, _, by simp [results, Try.results15, go_sem]; (repeat' first | rfl | apply And.intro), ret_sel HS.out, (by repeat (first | exact Bl.refl _ | with_reducible apply Bl.alloc | with_reducible apply Bl.grow | with_reducible apply Bl.sd | with_reducible apply Bl.drewN | with_reducible apply Bl.drew))⟩
    · have HS := Hd.mk (sel_bad (l := l) (mg := mg) (fun h => h2 h.2))
      rw [h1] at HC
      clear hr hearly h1
      generalize checkR ⟨a0, a1, a2, a3, a4, a5⟩ = q2 at HQ h2
      go_enter Try.func15, Try.ntmps15
      go_wp2_with (first | (go_at_call 17; (with_reducible refine (HC _ (by repeat (first | exact Gr.refl _ | with_reducible apply Gr.alloc | with_reducible apply Gr.grow | with_reducible apply Gr.drewN | with_reducible apply Gr.drew))).mono ?_); rintro e w' ⟨rfl, hg⟩; obtain ⟨n, os, rfl⟩ := hg.out; clear hg) | (go_at_call 18; (with_reducible refine (HQ _).mono ?_); rintro e w' ⟨rfl, hg⟩; obtain ⟨n, os, rfl⟩ := hg.out; clear hg))
      refine ⟨rfl, _, by simp [results, Try.results15, go_sem]; (repeat' first | rfl | apply And.intro), ret_sel HS.out, (by repeat (first | exact Bl.refl _ | with_reducible apply Bl.alloc | with_reducible apply Bl.grow | with_reducible apply Bl.sd | with_reducible apply Bl.drewN | with_reducible apply Bl.drew))⟩
  · have HS := Hd.mk (sel_bad (r := ⟨a0, a1, a2, a3, a4, a5⟩) (l := l) (mg := mg) (fun h => h1 h.1))
    clear hr hearly
    generalize checkL l = q1 at HC h1
    go_enter Try.func15, Try.ntmps15
    go_wp2_with (first | (go_at_call 17; (with_reducible refine (HC _ (by repeat (first | exact Gr.refl _ | with_reducible apply Gr.alloc | with_reducible apply Gr.grow | with_reducible apply Gr.drewN | with_reducible apply Gr.drew))).mono ?_); rintro e w' ⟨rfl, hg⟩; obtain ⟨n, os, rfl⟩ := hg.out; clear hg))
    refine ⟨rfl, _, by simp [results, Try.results15, go_sem]; (repeat' first | rfl | apply And.intro), ret_sel HS.out, (by repeat (first | exact Bl.refl _ | with_reducible apply Bl.alloc | with_reducible apply Bl.grow | with_reducible apply Bl.sd | with_reducible apply Bl.drewN | with_reducible apply Bl.drew))⟩
set_option maxHeartbeats 4000000 in
set_option maxRecDepth 100000 in
theorem pselect_main (A : Option Addr) (c : Nat) (l : List Nb) (a0 a1 a2 a3 a4 a5 mg : Int) (w : World) (hr : Rd w A l) (hc : l.length ≤ c)
    (h1 : checkL l = 0) (h2 : checkR ⟨a0, a1, a2, a3, a4, a5⟩ = 0) (h3 : win mg 0 65535 = true) (h4 : a0 ≠ 0) :
    Calls Try.prog 15 #[.slice A l.length c, .agg #[.int .i64 a0, .int .i64 a1, .int .i64 a2, .int .i64 a3, .int .i64 a4, .int .i64 a5], .int .i64 mg] w fun e w' =>
      e = .returned (.tuple #[vR (selectS ⟨a0, a1, a2, a3, a4, a5⟩ l mg).1, .bool (selectS ⟨a0, a1, a2, a3, a4, a5⟩ l mg).2.1, .int .i64 (selectS ⟨a0, a1, a2, a3, a4, a5⟩ l mg).2.2]) ∧ Bl w w' := by
  have hm := mixed
  have HC : ∀ W, Gr w W → _ := fun W h => pcheck A c l W (hr.gr h) hc
  have HQ := rcheck a0 a1 a2 a3 a4 a5
  have HS := Hd.mk (sel_main ⟨h1, h2⟩ h3 h4)
  have HW := pwithin mg 0 65535
  obtain ⟨h32, hok, hso⟩ := checkL_ok h1
  have hmg := (win_iff _ _ _).1 h3
  rw [h1] at HC; rw [h2] at HQ; rw [h3] at HW
  have HR := Hd.mk hr
  have HK := Hd.mk hok
  have HSo := Hd.mk hso
  have h4b : (a0 == 0) = false := by simp [h4]
  clear hr hok hso h1 h2 h3 h4
  generalize hr1 : r1S ⟨a0, a1, a2, a3, a4, a5⟩ l = r1 at HS
  have HR1 := Hd.mk hr1
  clear hr1
  go_enter Try.func15, Try.ntmps15
  go_upto_if 38 with (first | (go_at_call 17; (with_reducible refine (HC _ (by repeat (first | exact Gr.refl _ | with_reducible apply Gr.alloc | with_reducible apply Gr.grow | with_reducible apply Gr.drewN | with_reducible apply Gr.drew))).mono ?_); rintro e w' ⟨rfl, hg⟩; obtain ⟨n, os, rfl⟩ := hg.out; clear hg) | (go_at_call 18; (with_reducible refine (HQ _).mono ?_); rintro e w' ⟨rfl, hg⟩; obtain ⟨n, os, rfl⟩ := hg.out; clear hg) | (go_at_call 42; (with_reducible refine (HW _).mono ?_); rintro e w' ⟨rfl, rfl⟩))
  go_cut [] (fun wx => Hd (Gr ((w.alloc (.cells #[.int .i64 r1.nd, .int .i64 r1.ep, .int .i64 r1.pa, .int .i64 r1.he, .int .i64 r1.ra, .int .i64 r1.le] 24)).alloc (.cells #[.int .i64 0, .int .i64 0, .int .i64 0, .int .i64 0, .int .i64 0, .int .i64 0] 24)) wx))
  case first =>
    by_cases hp : 0 ≤ a2
    · have hfi : ∀ W, Gr w W → _ := fun W h => pfind A c l a2 W (HR.out.gr h) hc HSo.out h32
      cases hf : foundS l a2 with
      | false =>
        have e := HR1.out
        rw [r1_lost hp hf] at e
        subst e
        have hlo := rlose a0 a1 a2 a3 a4 a5
        rw [hf] at hfi
        clear hf
        generalize loseR ⟨a0, a1, a2, a3, a4, a5⟩ = u at *
        obtain ⟨u0, u1, u2, u3, u4, u5⟩ := u
        dsimp only [vR] at *
        go_wp2_with (first | (go_at_call 43; (with_reducible refine (hfi _ (by repeat (first | exact Gr.refl _ | with_reducible apply Gr.alloc | with_reducible apply Gr.grow | with_reducible apply Gr.drewN | with_reducible apply Gr.drew))).mono ?_); rintro e w' ⟨rfl, hg⟩; obtain ⟨n, os, rfl⟩ := hg.out; clear hg) | (go_at_call 44; (with_reducible refine (hlo _).mono ?_); rintro e w' ⟨rfl, hg⟩; obtain ⟨n, os, rfl⟩ := hg.out; clear hg))
        go_meet
        exact ⟨(by repeat (first | exact Gr.refl _ | with_reducible apply Gr.alloc | with_reducible apply Gr.grow | with_reducible apply Gr.drewN | with_reducible apply Gr.drew))⟩
      | true =>
        have e := HR1.out
        rw [r1_found hp hf] at e
        subst e
        have hlt := found_lt hf
        rw [hf] at hfi
        clear hf
        generalize lowS l a2 = i at *
        obtain ⟨b, off, rfl, hb, hcell⟩ := HR.out.2 (by omega)
        obtain ⟨k0, k1, k2, k3, k4, k5⟩ := hcell i hlt
        have hok := (okN_iff (nth l i)).1 (HK.out i hlt)
        have hltz : (i : Int) < (l.length : Int) := by omega
        have hkz : (0 : Int) ≤ (i : Int) := by omega
        clear hcell
        generalize nth l i = x at *
        obtain ⟨x0, x1, x2, x3, ⟨x4, x5⟩⟩ := x
        dsimp only at *
        have hco := pcost x4 x5 (by omega)
        have hup := rupdate a0 a1 a2 a3 a4 a5 x1 x2 (costS ⟨x4, x5⟩)
        generalize costS ⟨x4, x5⟩ = co at *
        generalize updateR ⟨a0, a1, a2, a3, a4, a5⟩ x1 x2 co = u at *
        obtain ⟨⟨u0, u1, u2, u3, u4, u5⟩, ue⟩ := u
        dsimp only [vR] at *
        have HOk := Hd.mk hok
        clear hok
        go_wp2_with (first | (go_at_call 43; (with_reducible refine (hfi _ (by repeat (first | exact Gr.refl _ | with_reducible apply Gr.alloc | with_reducible apply Gr.grow | with_reducible apply Gr.drewN | with_reducible apply Gr.drew))).mono ?_); rintro e w' ⟨rfl, hg⟩; obtain ⟨n, os, rfl⟩ := hg.out; clear hg))
        refine wp_region_held_drew (S := fun w' => w'.cell? ⟨b, off + i * 6 + 1, none⟩ = some (.int .i64 x1) ∧ w'.cell? ⟨b, off + i * 6 + 2, none⟩ = some (.int .i64 x2) ∧ w'.cell? ⟨b, off + i * 6 + 4, none⟩ = some (.int .i64 x4) ∧ w'.cell? ⟨b, off + i * 6 + 5, none⟩ = some (.int .i64 x5)) (by assumption) ?_ (fun hHeld => ?_)
        · ((try dsimp only); go_simp; done)
        refine wpAnyH_take (i := 1) (v := ?_) (by simp only [List.getElem?_toArray, List.getElem?_cons_zero, List.getElem?_cons_succ]; rfl) (by kernel_rfl) (by kernel_rfl) (by kernel_rfl) (by intro _ _ _ h; exact h) (Or.inl ⟨by rfl, ?_⟩) (by assumption) ?_
        rotate_left
        · (intro w hSw; (try dsimp only at hSw); go_simp; try (with_reducible rfl))
        try simp only [Act.put, List.setIfInBounds_toArray, List.set_cons_zero, List.set_cons_succ]
        refine wpAnyH_take (i := 2) (v := ?_) (by simp only [List.getElem?_toArray, List.getElem?_cons_zero, List.getElem?_cons_succ]; rfl) (by kernel_rfl) (by kernel_rfl) (by kernel_rfl) (by intro _ _ _ h; exact h) (Or.inl ⟨by rfl, ?_⟩) (by assumption) ?_
        rotate_left
        · (intro w hSw; (try dsimp only at hSw); go_simp; try (with_reducible rfl))
        try simp only [Act.put, List.setIfInBounds_toArray, List.set_cons_zero, List.set_cons_succ]
        refine wpAnyH_take (i := 3) (v := ?_) (by simp only [List.getElem?_toArray, List.getElem?_cons_zero, List.getElem?_cons_succ]; rfl) (by kernel_rfl) (by kernel_rfl) (by kernel_rfl) (by intro _ _ _ h; exact h) (Or.inl ⟨by rfl, ?_⟩) (by assumption) ?_
        rotate_left
        · (intro w hSw; (try dsimp only at hSw); go_simp; try (with_reducible rfl))
        try simp only [Act.put, List.setIfInBounds_toArray, List.set_cons_zero, List.set_cons_succ]
        refine wpAnyH_take (i := 4) (v := ?_) (by simp only [List.getElem?_toArray, List.getElem?_cons_zero, List.getElem?_cons_succ]; rfl) (by kernel_rfl) (by kernel_rfl) (by kernel_rfl) (by intro _ _ _ h; exact h) (Or.inl ⟨by rfl, ?_⟩) (by assumption) ?_
        rotate_left
        · (intro w hSw; (try dsimp only at hSw); go_simp; try (with_reducible rfl))
        try simp only [Act.put, List.setIfInBounds_toArray, List.set_cons_zero, List.set_cons_succ]
        refine wpAnyH_take (i := 5) (v := ?_) (by simp only [List.getElem?_toArray, List.getElem?_cons_zero, List.getElem?_cons_succ]; rfl) (by kernel_rfl) (by kernel_rfl) (by kernel_rfl) (by intro _ _ _ h; exact h) (Or.inl ⟨by rfl, ?_⟩) (by assumption) ?_
        rotate_left
        · (intro w hSw; (try dsimp only at hSw); go_simp; try (with_reducible rfl))
        try simp only [Act.put, List.setIfInBounds_toArray, List.set_cons_zero, List.set_cons_succ]
        refine wpAnyH_take (i := 6) (v := ?_) (by simp only [List.getElem?_toArray, List.getElem?_cons_zero, List.getElem?_cons_succ]; rfl) (by kernel_rfl) (by kernel_rfl) (by kernel_rfl) (by intro _ _ _ h; exact h) (Or.inl ⟨by rfl, ?_⟩) (by assumption) ?_
        rotate_left
        · (intro w hSw; (try dsimp only at hSw); go_simp; try (with_reducible rfl))
        try simp only [Act.put, List.setIfInBounds_toArray, List.set_cons_zero, List.set_cons_succ]
        refine wpAnyH_take (i := 7) (v := ?_) (by simp only [List.getElem?_toArray, List.getElem?_cons_zero, List.getElem?_cons_succ]; rfl) (by kernel_rfl) (by kernel_rfl) (by kernel_rfl) (by intro _ _ _ h; exact h) (Or.inl ⟨by rfl, ?_⟩) (by assumption) ?_
        rotate_left
        · (intro w hSw; (try dsimp only at hSw); go_simp; try (with_reducible rfl))
        try simp only [Act.put, List.setIfInBounds_toArray, List.set_cons_zero, List.set_cons_succ]
        refine wpAnyH_take (i := 8) (v := ?_) (by simp only [List.getElem?_toArray, List.getElem?_cons_zero, List.getElem?_cons_succ]; rfl) (by kernel_rfl) (by kernel_rfl) (by kernel_rfl) (by intro _ _ _ h; exact h) (Or.inl ⟨by rfl, ?_⟩) (by assumption) ?_
        rotate_left
        · (intro w hSw; (try dsimp only at hSw); go_simp; try (with_reducible rfl))
        try simp only [Act.put, List.setIfInBounds_toArray, List.set_cons_zero, List.set_cons_succ]
        refine wpAnyH_take (i := 9) (v := ?_) (by simp only [List.getElem?_toArray, List.getElem?_cons_zero, List.getElem?_cons_succ]; rfl) (by kernel_rfl) (by kernel_rfl) (by kernel_rfl) (by intro _ _ _ h; exact h) (Or.inl ⟨by rfl, ?_⟩) (by assumption) ?_
        rotate_left
        · (intro w hSw; (try dsimp only at hSw); go_simp; try (with_reducible rfl))
        try simp only [Act.put, List.setIfInBounds_toArray, List.set_cons_zero, List.set_cons_succ]
        refine wpAnyH_take (i := 10) (v := ?_) (by simp only [List.getElem?_toArray, List.getElem?_cons_zero, List.getElem?_cons_succ]; rfl) (by kernel_rfl) (by kernel_rfl) (by kernel_rfl) (by intro _ _ _ h; exact h) (Or.inl ⟨by rfl, ?_⟩) (by assumption) ?_
        rotate_left
        · (intro w hSw; (try dsimp only at hSw); go_simp; try (with_reducible rfl))
        try simp only [Act.put, List.setIfInBounds_toArray, List.set_cons_zero, List.set_cons_succ]
        refine wpAnyH_take (i := 11) (v := ?_) (by simp only [List.getElem?_toArray, List.getElem?_cons_zero, List.getElem?_cons_succ]; rfl) (by kernel_rfl) (by kernel_rfl) (by kernel_rfl) (by intro _ _ _ h; exact h) (Or.inl ⟨by rfl, ?_⟩) (by assumption) ?_
        rotate_left
        · (intro w hSw; (try dsimp only at hSw); go_simp; try (with_reducible rfl))
        try simp only [Act.put, List.setIfInBounds_toArray, List.set_cons_zero, List.set_cons_succ]
        refine wpAnyH_take (i := 12) (v := ?_) (by simp only [List.getElem?_toArray, List.getElem?_cons_zero, List.getElem?_cons_succ]; rfl) (by kernel_rfl) (by kernel_rfl) (by kernel_rfl) (by intro _ _ _ h; exact h) (Or.inl ⟨by rfl, ?_⟩) (by assumption) ?_
        rotate_left
        · (intro w hSw; (try dsimp only at hSw); go_simp; try (with_reducible rfl))
        try simp only [Act.put, List.setIfInBounds_toArray, List.set_cons_zero, List.set_cons_succ]
        refine wpAnyH_take (i := 13) (v := ?_) (by simp only [List.getElem?_toArray, List.getElem?_cons_zero, List.getElem?_cons_succ]; rfl) (by kernel_rfl) (by kernel_rfl) (by kernel_rfl) (by intro _ _ _ h; exact h) (Or.inl ⟨by rfl, ?_⟩) (by assumption) ?_
        rotate_left
        · (intro w hSw; (try dsimp only at hSw); go_simp; try (with_reducible rfl))
        try simp only [Act.put, List.setIfInBounds_toArray, List.set_cons_zero, List.set_cons_succ]
        refine wpAnyH_take (i := 14) (v := ?_) (by simp only [List.getElem?_toArray, List.getElem?_cons_zero, List.getElem?_cons_succ]; rfl) (by kernel_rfl) (by kernel_rfl) (by kernel_rfl) (by intro _ _ _ h; exact h) (Or.inl ⟨by rfl, ?_⟩) (by assumption) ?_
        rotate_left
        · (intro w hSw; (try dsimp only at hSw); go_simp; try (with_reducible rfl))
        try simp only [Act.put, List.setIfInBounds_toArray, List.set_cons_zero, List.set_cons_succ]
        refine wpAnyH_take (i := 15) (v := ?_) (by simp only [List.getElem?_toArray, List.getElem?_cons_zero, List.getElem?_cons_succ]; rfl) (by kernel_rfl) (by kernel_rfl) (by kernel_rfl) (by intro _ _ _ h; exact h) (Or.inl ⟨by rfl, ?_⟩) (by assumption) ?_
        rotate_left
        · (intro w hSw; (try dsimp only at hSw); go_simp; try (with_reducible rfl))
        try simp only [Act.put, List.setIfInBounds_toArray, List.set_cons_zero, List.set_cons_succ]
        refine wpAnyH_ready (rs := [0, 16]) (by kernel_rfl) (by simp) ?_
        refine AllReadyH.cons (i := 0) (by simp only [List.getElem?_toArray, List.getElem?_cons_zero, List.getElem?_cons_succ]; rfl) (fun K hK => ?_) ?_
        · skip
          go_simp
          refine hK.out _ _ ?_ (fun hHeld => ?_)
          · ((try dsimp only); go_simp; done)
          clear hK K
          try simp only [Act.put, List.setIfInBounds_toArray, List.set_cons_zero, List.set_cons_succ]
          refine wpAnyH_ready (rs := [16]) (by kernel_rfl) (by simp) ?_
          refine AllReadyH.cons (i := 16) (by simp only [List.getElem?_toArray, List.getElem?_cons_zero, List.getElem?_cons_succ]; rfl) (fun K hK => ?_) ?_
          rotate_left
          · exact AllReadyH.nil
          (go_simp; go_at_call 20; (with_reducible refine (hco _).mono ?_); rintro e w' ⟨rfl, hg⟩; obtain ⟨n, os, rfl⟩ := hg.out; clear hg; go_wp2_with fail)
          refine hK.out _ _ ?_ (fun hHeld => ?_)
          · ((try dsimp only); go_simp; done)
          clear hK K
          try simp only [Act.put, List.setIfInBounds_toArray, List.set_cons_zero, List.set_cons_succ]
          refine wpAnyH_ready (rs := [17]) (by kernel_rfl) (by simp) ?_
          refine AllReadyH.cons (i := 17) (by simp only [List.getElem?_toArray, List.getElem?_cons_zero, List.getElem?_cons_succ]; rfl) (fun K hK => ?_) ?_
          rotate_left
          · exact AllReadyH.nil
          (go_simp; go_at_call 23; (with_reducible refine (hup _).mono ?_); rintro e w' ⟨rfl, hg⟩; obtain ⟨n, os, rfl⟩ := hg.out; clear hg; go_wp2_with fail)
          refine hK.out _ _ ?_ (fun hHeld => ?_)
          · ((try dsimp only); go_simp; done)
          clear hK K
          try simp only [Act.put, List.setIfInBounds_toArray, List.set_cons_zero, List.set_cons_succ]
          refine wpAnyH_take (i := 18) (v := ?_) (by simp only [List.getElem?_toArray, List.getElem?_cons_zero, List.getElem?_cons_succ]; rfl) (by kernel_rfl) (by kernel_rfl) (by kernel_rfl) (by intro _ _ _ h; exact h) (Or.inl ⟨by rfl, ?_⟩) (by assumption) ?_
          rotate_left
          · (intro w hSw; (try dsimp only at hSw); go_simp; try (with_reducible rfl))
          try simp only [Act.put, List.setIfInBounds_toArray, List.set_cons_zero, List.set_cons_succ]
          refine wpAnyH_take (i := 19) (v := ?_) (by simp only [List.getElem?_toArray, List.getElem?_cons_zero, List.getElem?_cons_succ]; rfl) (by kernel_rfl) (by kernel_rfl) (by kernel_rfl) (by intro _ _ _ h; exact h) (Or.inl ⟨by rfl, ?_⟩) (by assumption) ?_
          rotate_left
          · (intro w hSw; (try dsimp only at hSw); go_simp; try (with_reducible rfl))
          try simp only [Act.put, List.setIfInBounds_toArray, List.set_cons_zero, List.set_cons_succ]
          refine wpAnyH_take (i := 20) (v := ?_) (by simp only [List.getElem?_toArray, List.getElem?_cons_zero, List.getElem?_cons_succ]; rfl) (by kernel_rfl) (by kernel_rfl) (by kernel_rfl) (by intro _ _ _ h; exact h) (Or.inl ⟨by rfl, ?_⟩) (by assumption) ?_
          rotate_left
          · (intro w hSw; (try dsimp only at hSw); go_simp; try (with_reducible rfl))
          try simp only [Act.put, List.setIfInBounds_toArray, List.set_cons_zero, List.set_cons_succ]
          refine wpAnyH_ready (rs := [21]) (by kernel_rfl) (by simp) ?_
          refine AllReadyH.cons (i := 21) (by simp only [List.getElem?_toArray, List.getElem?_cons_zero, List.getElem?_cons_succ]; rfl) (fun K hK => ?_) ?_
          rotate_left
          · exact AllReadyH.nil
          go_simp
          refine hK.out _ _ ?_ (fun hHeld => ?_)
          · ((try dsimp only); go_simp; done)
          clear hK K
          try simp only [Act.put, List.setIfInBounds_toArray, List.set_cons_zero, List.set_cons_succ]
          refine wpAnyH_done (by kernel_rfl) ?_ _
          go_wp2
          go_meet
          exact ⟨(by repeat (first | exact Gr.refl _ | with_reducible apply Gr.alloc | with_reducible apply Gr.grow | with_reducible apply Gr.drewN | with_reducible apply Gr.drew))⟩
        refine AllReadyH.cons (i := 16) (by simp only [List.getElem?_toArray, List.getElem?_cons_zero, List.getElem?_cons_succ]; rfl) (fun K hK => ?_) ?_
        · skip
          (go_simp; go_at_call 20; (with_reducible refine (hco _).mono ?_); rintro e w' ⟨rfl, hg⟩; obtain ⟨n, os, rfl⟩ := hg.out; clear hg; go_wp2_with fail)
          refine hK.out _ _ ?_ (fun hHeld => ?_)
          · ((try dsimp only); go_simp; done)
          clear hK K
          try simp only [Act.put, List.setIfInBounds_toArray, List.set_cons_zero, List.set_cons_succ]
          refine wpAnyH_ready (rs := [0]) (by kernel_rfl) (by simp) ?_
          refine AllReadyH.cons (i := 0) (by simp only [List.getElem?_toArray, List.getElem?_cons_zero, List.getElem?_cons_succ]; rfl) (fun K hK => ?_) ?_
          rotate_left
          · exact AllReadyH.nil
          go_simp
          refine hK.out _ _ ?_ (fun hHeld => ?_)
          · ((try dsimp only); go_simp; done)
          clear hK K
          try simp only [Act.put, List.setIfInBounds_toArray, List.set_cons_zero, List.set_cons_succ]
          refine wpAnyH_ready (rs := [17]) (by kernel_rfl) (by simp) ?_
          refine AllReadyH.cons (i := 17) (by simp only [List.getElem?_toArray, List.getElem?_cons_zero, List.getElem?_cons_succ]; rfl) (fun K hK => ?_) ?_
          rotate_left
          · exact AllReadyH.nil
          (go_simp; go_at_call 23; (with_reducible refine (hup _).mono ?_); rintro e w' ⟨rfl, hg⟩; obtain ⟨n, os, rfl⟩ := hg.out; clear hg; go_wp2_with fail)
          refine hK.out _ _ ?_ (fun hHeld => ?_)
          · ((try dsimp only); go_simp; done)
          clear hK K
          try simp only [Act.put, List.setIfInBounds_toArray, List.set_cons_zero, List.set_cons_succ]
          refine wpAnyH_take (i := 18) (v := ?_) (by simp only [List.getElem?_toArray, List.getElem?_cons_zero, List.getElem?_cons_succ]; rfl) (by kernel_rfl) (by kernel_rfl) (by kernel_rfl) (by intro _ _ _ h; exact h) (Or.inl ⟨by rfl, ?_⟩) (by assumption) ?_
          rotate_left
          · (intro w hSw; (try dsimp only at hSw); go_simp; try (with_reducible rfl))
          try simp only [Act.put, List.setIfInBounds_toArray, List.set_cons_zero, List.set_cons_succ]
          refine wpAnyH_take (i := 19) (v := ?_) (by simp only [List.getElem?_toArray, List.getElem?_cons_zero, List.getElem?_cons_succ]; rfl) (by kernel_rfl) (by kernel_rfl) (by kernel_rfl) (by intro _ _ _ h; exact h) (Or.inl ⟨by rfl, ?_⟩) (by assumption) ?_
          rotate_left
          · (intro w hSw; (try dsimp only at hSw); go_simp; try (with_reducible rfl))
          try simp only [Act.put, List.setIfInBounds_toArray, List.set_cons_zero, List.set_cons_succ]
          refine wpAnyH_take (i := 20) (v := ?_) (by simp only [List.getElem?_toArray, List.getElem?_cons_zero, List.getElem?_cons_succ]; rfl) (by kernel_rfl) (by kernel_rfl) (by kernel_rfl) (by intro _ _ _ h; exact h) (Or.inl ⟨by rfl, ?_⟩) (by assumption) ?_
          rotate_left
          · (intro w hSw; (try dsimp only at hSw); go_simp; try (with_reducible rfl))
          try simp only [Act.put, List.setIfInBounds_toArray, List.set_cons_zero, List.set_cons_succ]
          refine wpAnyH_ready (rs := [21]) (by kernel_rfl) (by simp) ?_
          refine AllReadyH.cons (i := 21) (by simp only [List.getElem?_toArray, List.getElem?_cons_zero, List.getElem?_cons_succ]; rfl) (fun K hK => ?_) ?_
          rotate_left
          · exact AllReadyH.nil
          go_simp
          refine hK.out _ _ ?_ (fun hHeld => ?_)
          · ((try dsimp only); go_simp; done)
          clear hK K
          try simp only [Act.put, List.setIfInBounds_toArray, List.set_cons_zero, List.set_cons_succ]
          refine wpAnyH_done (by kernel_rfl) ?_ _
          go_wp2
          go_meet
          exact ⟨(by repeat (first | exact Gr.refl _ | with_reducible apply Gr.alloc | with_reducible apply Gr.grow | with_reducible apply Gr.drewN | with_reducible apply Gr.drew))⟩
        exact AllReadyH.nil
    · have e := HR1.out
      rw [r1_none hp] at e
      subst e
      dsimp only at *
      go_wp2
      go_meet
      exact ⟨(by repeat (first | exact Gr.refl _ | with_reducible apply Gr.alloc | with_reducible apply Gr.grow | with_reducible apply Gr.drewN | with_reducible apply Gr.drew))⟩
  case rest =>
    obtain ⟨n0, os0, rfl⟩ := hcut.out.out
    obtain ⟨b0, b1, b2, b3, b4, b5⟩ := r1
    have hB : ∀ W, Gr w W → _ := fun W h => pbest A c l b0 b1 b2 b3 b4 b5 W (HR.out.gr h) hc h32 HK.out
    have hS := HS.out
    unfold r2S at hS
    have hix := best_ix (r := ⟨b0, b1, b2, b3, b4, b5⟩) (l := l)
    have hno := bestS_no (r := ⟨b0, b1, b2, b3, b4, b5⟩) (l := l)
    generalize bestS ⟨b0, b1, b2, b3, b4, b5⟩ l = bs at *
    obtain ⟨⟨⟨m0, m1, m2, m3, ⟨m4, m5⟩⟩, m6, m7⟩, mb⟩ := bs
    dsimp only [vL] at *
    have HS2 := Hd.mk hS
    have HIx := Hd.mk hix
    have HNo := Hd.mk hno
    clear hS hix hno HS
    cases mb with
    | false =>
      go_wp2_with (first | (go_at_call 39; (with_reducible refine (hB _ (by repeat (first | exact Gr.refl _ | with_reducible apply Gr.alloc | with_reducible apply Gr.grow | with_reducible apply Gr.drewN | with_reducible apply Gr.drew))).mono ?_); rintro e w' ⟨rfl, hg⟩; obtain ⟨n, os, rfl⟩ := hg.out; clear hg))
      go_quiet (fail)
      go_wp2
      go_region
      go_wp2
      refine ⟨rfl, _, by simp [results, Try.results15, go_sem]; (repeat' first | rfl | apply And.intro), ret_sel ?_, (by repeat (first | exact Bl.refl _ | with_reducible apply Bl.alloc | with_reducible apply Bl.grow | with_reducible apply Bl.sd | with_reducible apply Bl.drewN | with_reducible apply Bl.drew))⟩
      rw [HS2.out, if_neg (by simp)]
    | true =>
      obtain ⟨j, hj, hmk, hcand⟩ := HIx.out rfl
      have hoj := (okN_iff (nth l j)).1 (HK.out j hj)
      have hcb := costS_bd (nth l j).c
      unfold mkL at hmk
      generalize nth l j = x at *
      generalize costS x.c = co at *
      injection hmk with e1 e2 e3
      subst e1
      subst e2
      subst e3
      dsimp only at *
      have hlp := lpath m0 m1 m2 m3 m4 m5 (j : Int) m7 (by omega) (by omega) (by omega) (by omega)
      have had := radopt b0 b1 b2 b3 b4 b5 m0 m1 m2 m7
      generalize adoptR ⟨b0, b1, b2, b3, b4, b5⟩ m0 m1 m2 m7 = d at *
      obtain ⟨⟨d0, d1, d2, d3, d4, d5⟩, de⟩ := d
      dsimp only [vR] at *
      have HOj := Hd.mk hoj
      have HCb := Hd.mk hcb
      clear hoj hcb hcand
      go_wp2_with (first | (go_at_call 39; (with_reducible refine (hB _ (by repeat (first | exact Gr.refl _ | with_reducible apply Gr.alloc | with_reducible apply Gr.grow | with_reducible apply Gr.drewN | with_reducible apply Gr.drew))).mono ?_); rintro e w' ⟨rfl, hg⟩; obtain ⟨n, os, rfl⟩ := hg.out; clear hg))
      generalize hW : World.alloc _ _ = W
      have HWe := Hd.mk hW
      clear hW
      have g0 : W.cell? ⟨w.heap.size, 0, none⟩ = some (.int .i64 b0) := by rw [← HWe.out]; go_simp
      have g1 : W.cell? ⟨w.heap.size, 1, none⟩ = some (.int .i64 b1) := by rw [← HWe.out]; go_simp
      have g2 : W.cell? ⟨w.heap.size, 2, none⟩ = some (.int .i64 b2) := by rw [← HWe.out]; go_simp
      have g3 : W.cell? ⟨w.heap.size, 3, none⟩ = some (.int .i64 b3) := by rw [← HWe.out]; go_simp
      have g4 : W.cell? ⟨w.heap.size, 4, none⟩ = some (.int .i64 b4) := by rw [← HWe.out]; go_simp
      have g5 : W.cell? ⟨w.heap.size, 5, none⟩ = some (.int .i64 b5) := by rw [← HWe.out]; go_simp
      have h0 : W.cell? ⟨w.heap.size + (2 + (os0.size + os.size)), 0, none⟩ = some (.int .i64 m0) := by rw [← HWe.out]; go_simp
      have h1 : W.cell? ⟨w.heap.size + (2 + (os0.size + os.size)), 1, none⟩ = some (.int .i64 m1) := by rw [← HWe.out]; go_simp
      have h2 : W.cell? ⟨w.heap.size + (2 + (os0.size + os.size)), 2, none⟩ = some (.int .i64 m2) := by rw [← HWe.out]; go_simp
      have h3 : W.cell? ⟨w.heap.size + (2 + (os0.size + os.size)), 3, none⟩ = some (.int .i64 m3) := by rw [← HWe.out]; go_simp
      have h4 : W.cell? ⟨w.heap.size + (2 + (os0.size + os.size)), 4, none⟩ = some (.int .i64 m4) := by rw [← HWe.out]; go_simp
      have h5 : W.cell? ⟨w.heap.size + (2 + (os0.size + os.size)), 5, none⟩ = some (.int .i64 m5) := by rw [← HWe.out]; go_simp
      have h6 : W.cell? ⟨w.heap.size + (2 + (os0.size + os.size)), 6, none⟩ = some (.int .i64 (j : Int)) := by rw [← HWe.out]; go_simp
      have h7 : W.cell? ⟨w.heap.size + (2 + (os0.size + os.size)), 7, none⟩ = some (.int .i64 m7) := by rw [← HWe.out]; go_simp
      have hbw : w.heap.size < W.heap.size := by rw [← HWe.out]; first | (go_simp; done) | (simp [go_sem]; omega) | (go_simp; omega)
      have hxw : w.heap.size + (2 + (os0.size + os.size)) < W.heap.size := by rw [← HWe.out]; first | (go_simp; done) | (simp [go_sem]; omega) | (go_simp; omega)
      have hsum : IntKind.i64.wrap (m2 + m7 + mg) = m2 + m7 + mg := IntWalk.i64_in _ (by have := HOj.out; have := HCb.out; omega)
      by_cases p1 : b2 = -1
      · have p1b : (b2 == -1) = true := by simp [p1]
        have P1 := Hd.mk p1
        clear p1
        (refine wp_region_quiet_grown (by assumption) (by kernel_rfl) ?_; (repeat (go_big_quiet_step (first | (go_at_call 45; exact quiet_grown rfl (hlp _))))); refine wpQuiet_nil ?_; intro _ hw'; obtain ⟨⟨nq, osq⟩, hw''⟩ := hw'; subst hw'')
        clear g0 g1 g2 g3 g4 g5 h0 h1 h2 h3 h4 h5 h6 h7 hbw hxw
        obtain rfl := HWe.out
        clear HWe
        go_wp2_with (first | (go_at_call 46; (with_reducible refine (had _).mono ?_); rintro e w' ⟨rfl, hg⟩; obtain ⟨n, os, rfl⟩ := hg.out; clear hg))
        go_region
        go_wp2
        refine ⟨rfl, _, by simp [results, Try.results15, go_sem]; (repeat' first | rfl | apply And.intro), ret_sel ?_, (by repeat (first | exact Bl.refl _ | with_reducible apply Bl.alloc | with_reducible apply Bl.grow | with_reducible apply Bl.sd | with_reducible apply Bl.drewN | with_reducible apply Bl.drew))⟩
        rw [HS2.out, if_pos ⟨by simp, .inl P1.out⟩]
      · have p1b : (b2 == -1) = false := by simp [p1]
        have P1 := Hd.mk p1
        clear p1
        by_cases p2 : b1 < m1
        · have p2b : decide (b1 < m1) = true := by simp [p2]
          (refine wp_region_quiet_grown (by assumption) (by kernel_rfl) ?_; (repeat (go_big_quiet_step (first | (go_at_call 45; exact quiet_grown rfl (hlp _))))); refine wpQuiet_nil ?_; intro _ hw'; obtain ⟨⟨nq, osq⟩, hw''⟩ := hw'; subst hw'')
          clear g0 g1 g2 g3 g4 g5 h0 h1 h2 h3 h4 h5 h6 h7 hbw hxw
          obtain rfl := HWe.out
          clear HWe
          go_wp2_with (first | (go_at_call 46; (with_reducible refine (had _).mono ?_); rintro e w' ⟨rfl, hg⟩; obtain ⟨n, os, rfl⟩ := hg.out; clear hg))
          go_region
          go_wp2
          refine ⟨rfl, _, by simp [results, Try.results15, go_sem]; (repeat' first | rfl | apply And.intro), ret_sel ?_, (by repeat (first | exact Bl.refl _ | with_reducible apply Bl.alloc | with_reducible apply Bl.grow | with_reducible apply Bl.sd | with_reducible apply Bl.drewN | with_reducible apply Bl.drew))⟩
          rw [HS2.out, if_pos ⟨by simp, .inr (.inl p2)⟩]
        · have p2b : decide (b1 < m1) = false := by simp; omega
          by_cases p3 : m2 + m7 + mg < b4
          · have p3b : decide (m2 + m7 + mg < b4) = true := by simp [p3]
            (refine wp_region_quiet_grown (by assumption) (by kernel_rfl) ?_; (repeat (go_big_quiet_step (first | (go_at_call 45; exact quiet_grown rfl (hlp _))))); refine wpQuiet_nil ?_; intro _ hw'; obtain ⟨⟨nq, osq⟩, hw''⟩ := hw'; subst hw'')
            clear g0 g1 g2 g3 g4 g5 h0 h1 h2 h3 h4 h5 h6 h7 hbw hxw
            obtain rfl := HWe.out
            clear HWe
            go_wp2_with (first | (go_at_call 46; (with_reducible refine (had _).mono ?_); rintro e w' ⟨rfl, hg⟩; obtain ⟨n, os, rfl⟩ := hg.out; clear hg))
            go_region
            go_wp2
            refine ⟨rfl, _, by simp [results, Try.results15, go_sem]; (repeat' first | rfl | apply And.intro), ret_sel ?_, (by repeat (first | exact Bl.refl _ | with_reducible apply Bl.alloc | with_reducible apply Bl.grow | with_reducible apply Bl.sd | with_reducible apply Bl.drewN | with_reducible apply Bl.drew))⟩
            rw [HS2.out, if_pos ⟨by simp, .inr (.inr p3)⟩]
          · have p3b : decide (m2 + m7 + mg < b4) = false := by simp; omega
            (refine wp_region_quiet_grown (by assumption) (by kernel_rfl) ?_; (repeat (go_big_quiet_step (first | (go_at_call 45; exact quiet_grown rfl (hlp _))))); refine wpQuiet_nil ?_; intro _ hw'; obtain ⟨⟨nq, osq⟩, hw''⟩ := hw'; subst hw'')
            clear g0 g1 g2 g3 g4 g5 h0 h1 h2 h3 h4 h5 h6 h7 hbw hxw
            obtain rfl := HWe.out
            clear HWe
            go_wp2
            go_region
            go_wp2
            refine ⟨rfl, _, by simp [results, Try.results15, go_sem]; (repeat' first | rfl | apply And.intro), ret_sel ?_, (by repeat (first | exact Bl.refl _ | with_reducible apply Bl.alloc | with_reducible apply Bl.grow | with_reducible apply Bl.sd | with_reducible apply Bl.drewN | with_reducible apply Bl.drew))⟩
            rw [HS2.out, if_neg (by rintro ⟨_, h⟩; rcases h with h | h | h; exact P1.out h; omega; omega)]
theorem pselect (A : Option Addr) (c : Nat) (l : List Nb) (a0 a1 a2 a3 a4 a5 mg : Int) (w : World) (hr : Rd w A l) (hc : l.length ≤ c) :
    Calls Try.prog 15 #[.slice A l.length c, .agg #[.int .i64 a0, .int .i64 a1, .int .i64 a2, .int .i64 a3, .int .i64 a4, .int .i64 a5], .int .i64 mg] w fun e w' =>
      e = .returned (.tuple #[vR (selectS ⟨a0, a1, a2, a3, a4, a5⟩ l mg).1, .bool (selectS ⟨a0, a1, a2, a3, a4, a5⟩ l mg).2.1, .int .i64 (selectS ⟨a0, a1, a2, a3, a4, a5⟩ l mg).2.2]) ∧ Bl w w' := by
  by_cases h : checkL l = 0 ∧ checkR ⟨a0, a1, a2, a3, a4, a5⟩ = 0 ∧ win mg 0 65535 = true ∧ a0 ≠ 0
  · exact pselect_main A c l a0 a1 a2 a3 a4 a5 mg w hr hc h.1 h.2.1 h.2.2.1 h.2.2.2
  · exact pselect_early A c l a0 a1 a2 a3 a4 a5 mg w hr hc h
end Go.Proofs.Ytlifpafnkagofaa.F
