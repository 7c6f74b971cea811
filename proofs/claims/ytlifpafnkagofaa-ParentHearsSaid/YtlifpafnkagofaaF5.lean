import Derived.Test.YtlifpafnkagofaaF4
namespace Go.Proofs.Ytlifpafnkagofaa.F
open Go.RowKit Go.Sort Go.Proofs.Ytlifpafnkagofaa.B Go.Proofs.Ytlifpafnkagofaa.S
set_option linter.unusedVariables false
set_option linter.unusedSimpArgs false
set_option maxHeartbeats 4000000 in
theorem xadopt (a0 a1 a2 a3 a4 a5 fr ep ra co : Int) (w : World) : Calls Try.prog 50 #[.agg #[.int .i64 a0, .int .i64 a1, .int .i64 a2, .int .i64 a3, .int .i64 a4, .int .i64 a5], .int .i64 fr, .int .i64 ep, .int .i64 ra, .int .i64 co] w fun e w' =>
    e = .returned (.tuple #[vR (adoptR ⟨a0, a1, a2, a3, a4, a5⟩ fr ep ra co).1, .int .i64 (adoptR ⟨a0, a1, a2, a3, a4, a5⟩ fr ep ra co).2]) ∧ Gr w w' := by
  have HC := xcheck a0 a1 a2 a3 a4 a5
  generalize hq : checkR ⟨a0, a1, a2, a3, a4, a5⟩ = q at HC
  have HQ := Hd.mk hq
  clear hq
  have HA := xranges ep ra co
  generalize ha : decide (1 ≤ ep ∧ ep ≤ 65535 ∧ 0 ≤ ra ∧ ra ≤ 65534 ∧ 1 ≤ co ∧ co ≤ 1023) = b at HA
  have HF := xfeasible a0 a1 a2 a3 a4 a5 ep ra
  generalize hf : feasR ⟨a0, a1, a2, a3, a4, a5⟩ ep ra = f at HF
  have HF2 := Hd.mk hf
  clear hf
  cases b
  all_goals
    simp only [decide_eq_true_eq, decide_eq_false_iff_not] at ha
    have HB := Hd.mk ha
    clear ha
    go_enter Try.func50, Try.ntmps50
    go_wp2_with (first | (go_at_call 19; (with_reducible refine (HC _).mono ?_); rintro e w' ⟨rfl, hg⟩; obtain ⟨n, os, rfl⟩ := hg.out; clear hg) | (go_at_call 66; (with_reducible refine (HA _).mono ?_); rintro e w' ⟨rfl, rfl⟩) | (go_at_call 54; (with_reducible refine (xnode _ _).mono ?_); rintro e w' ⟨rfl, rfl⟩) | (go_at_call 40; (with_reducible refine (HF _).mono ?_); rintro e w' ⟨rfl, hg⟩; obtain ⟨n, os, rfl⟩ := hg.out; clear hg))
    all_goals try (exfalso; simp_all; done)
    all_goals
      refine ⟨rfl, _, by simp [results, Try.results50, go_sem]; (repeat' first | rfl | apply And.intro), ret_rke ?_, (by repeat (first | exact Gr.refl _ | with_reducible apply Gr.alloc | with_reducible apply Gr.grow | with_reducible apply Gr.drewN | with_reducible apply Gr.drew))⟩
      have hb := HB.out
      try simp only [Bool.not_eq_true, win_not, win_iff, Bool.not_eq_false', beq_iff_eq, Bool.not_eq_true', beq_eq_false_iff_ne, decide_eq_true_eq, decide_eq_false_iff_not, bne_iff_ne, bne_eq_false_iff_eq, ne_eq, Int.not_lt, Int.not_le] at *
      try (have hw : wrap64 (ra + co) = ra + co := by unfold wrap64; omega
           simp only [hw] at *)
      unfold adoptR beginR
      rw [HQ.out, HF2.out]
      dsimp only
      repeat' split
      all_goals first | rfl | omega | (simp_all; done) | (simp_all; omega)
set_option maxHeartbeats 4000000 in
theorem xupdate (a0 a1 a2 a3 a4 a5 ep ra co : Int) (w : World) : Calls Try.prog 49 #[.agg #[.int .i64 a0, .int .i64 a1, .int .i64 a2, .int .i64 a3, .int .i64 a4, .int .i64 a5], .int .i64 ep, .int .i64 ra, .int .i64 co] w fun e w' =>
    e = .returned (.tuple #[vR (updateR ⟨a0, a1, a2, a3, a4, a5⟩ ep ra co).1, .int .i64 (updateR ⟨a0, a1, a2, a3, a4, a5⟩ ep ra co).2]) ∧ Gr w w' := by
  have HC := xcheck a0 a1 a2 a3 a4 a5
  generalize hq : checkR ⟨a0, a1, a2, a3, a4, a5⟩ = q at HC
  have HQ := Hd.mk hq
  clear hq
  have HA := xranges ep ra co
  generalize ha : decide (1 ≤ ep ∧ ep ≤ 65535 ∧ 0 ≤ ra ∧ ra ≤ 65534 ∧ 1 ≤ co ∧ co ≤ 1023) = b at HA
  have HL := xlose a0 a1 a2 a3 a4 a5
  generalize hl : loseR ⟨a0, a1, a2, a3, a4, a5⟩ = r3 at HL
  obtain ⟨c0, c1, c2, c3, c4, c5⟩ := r3
  dsimp only [vR] at HL
  have HR3 := Hd.mk hl
  clear hl
  have HD := xadopt a0 a1 a2 a3 a4 a5 a2 ep ra co
  generalize hd : adoptR ⟨a0, a1, a2, a3, a4, a5⟩ a2 ep ra co = r4 at HD
  obtain ⟨⟨d0, d1, d2, d3, d4, d5⟩, d6⟩ := r4
  dsimp only [vR] at HD
  have HR4 := Hd.mk hd
  clear hd
  cases b
  all_goals
    simp only [decide_eq_true_eq, decide_eq_false_iff_not] at ha
    have HB := Hd.mk ha
    clear ha
    go_enter Try.func49, Try.ntmps49
    go_wp2_with (first | (go_at_call 19; (with_reducible refine (HC _).mono ?_); rintro e w' ⟨rfl, hg⟩; obtain ⟨n, os, rfl⟩ := hg.out; clear hg) | (go_at_call 66; (with_reducible refine (HA _).mono ?_); rintro e w' ⟨rfl, rfl⟩) | (go_at_call 50; (with_reducible refine (HD _).mono ?_); rintro e w' ⟨rfl, hg⟩; obtain ⟨n, os, rfl⟩ := hg.out; clear hg) | (go_at_call 48; (with_reducible refine (HL _).mono ?_); rintro e w' ⟨rfl, hg⟩; obtain ⟨n, os, rfl⟩ := hg.out; clear hg))
    all_goals try (exfalso; simp_all; done)
    all_goals
      refine ⟨rfl, _, by simp [results, Try.results49, go_sem]; (repeat' first | rfl | apply And.intro), ret_rke ?_, (by repeat (first | exact Gr.refl _ | with_reducible apply Gr.alloc | with_reducible apply Gr.grow | with_reducible apply Gr.drewN | with_reducible apply Gr.drew))⟩
      have hb := HB.out
      try simp only [Bool.not_eq_true, win_not, win_iff, Bool.not_eq_false', beq_iff_eq, Bool.not_eq_true', beq_eq_false_iff_ne, decide_eq_true_eq, decide_eq_false_iff_not, bne_iff_ne, bne_eq_false_iff_eq, ne_eq, Int.not_lt, Int.not_le] at *
      by_cases hz : q = 0 ∧ a2 ≠ -1 ∧ 1 ≤ ep ∧ ep ≤ 65535
      · have hlb := lose_begin ⟨a0, a1, a2, a3, a4, a5⟩ ep (HQ.out.trans hz.1) hz.2.1 hz.2.2.1 hz.2.2.2
        rw [HR3.out] at hlb
        unfold updateR
        dsimp only
        rw [HQ.out, HR4.out, hlb]
        unfold beginR
        dsimp only
        repeat' split
        all_goals first | rfl | omega | (simp_all; done) | (simp_all; omega)
      · unfold updateR
        dsimp only
        rw [HQ.out, HR4.out]
        dsimp only
        repeat' split
        all_goals first | rfl | omega | (simp_all; done) | (simp_all; omega)
end Go.Proofs.Ytlifpafnkagofaa.F
