import Derived.Test.YtlifpafnkagofaaF2
namespace Go.Proofs.Ytlifpafnkagofaa.F
open Go.RowKit Go.Sort Go.Proofs.Ytlifpafnkagofaa.B Go.Proofs.Ytlifpafnkagofaa.S
set_option linter.unusedVariables false
set_option linter.unusedSimpArgs false
set_option maxHeartbeats 4000000 in
theorem radopt (a0 a1 a2 a3 a4 a5 fr ep ra co : Int) (w : World) : Calls Try.prog 46 #[.agg #[.int .i64 a0, .int .i64 a1, .int .i64 a2, .int .i64 a3, .int .i64 a4, .int .i64 a5], .int .i64 fr, .int .i64 ep, .int .i64 ra, .int .i64 co] w fun e w' =>
    e = .returned (.tuple #[vR (adoptR ⟨a0, a1, a2, a3, a4, a5⟩ fr ep ra co).1, .int .i64 (adoptR ⟨a0, a1, a2, a3, a4, a5⟩ fr ep ra co).2]) ∧ Gr w w' := by
  have HC := rcheck a0 a1 a2 a3 a4 a5
  generalize hq : checkR ⟨a0, a1, a2, a3, a4, a5⟩ = q at HC
  have HQ := Hd.mk hq
  clear hq
  have HA := radv ep ra
  generalize ha : (win ep 1 65535 && win ra 0 65534) = b at HA
  have HF := rfeasible a0 a1 a2 a3 a4 a5 ep ra
  generalize hf : feasR ⟨a0, a1, a2, a3, a4, a5⟩ ep ra = f at HF
  have HG := rbegin a0 a1 a2 a3 a4 a5 ep
  have hn := begin_nd ⟨a0, a1, a2, a3, a4, a5⟩ ep
  generalize hg : beginR ⟨a0, a1, a2, a3, a4, a5⟩ ep = r2 at HG hn
  obtain ⟨b0, b1, b2, b3, b4, b5⟩ := r2
  dsimp only [vR] at HG hn
  subst hn
  have HR := Hd.mk hg
  clear hg
  have HF2 := Hd.mk hf
  clear hf
  cases b
  all_goals
    simp only [Bool.and_eq_true, Bool.and_eq_false_iff, win_iff, win_not] at ha
    have HB := Hd.mk ha
    clear ha
    go_enter Try.func46, Try.ntmps46
    go_wp2_with (first | (go_at_call 18; (with_reducible refine (HC _).mono ?_); rintro e w' ⟨rfl, hg⟩; obtain ⟨n, os, rfl⟩ := hg.out; clear hg) | (go_at_call 55; (with_reducible refine (HA _).mono ?_); rintro e w' ⟨rfl, rfl⟩) | (go_at_call 53; (with_reducible refine (rnode _ _).mono ?_); rintro e w' ⟨rfl, rfl⟩) | (go_at_call 52; (with_reducible refine (rwithin _ _ _ _).mono ?_); rintro e w' ⟨rfl, rfl⟩) | (go_at_call 63; (with_reducible refine (HF _).mono ?_); rintro e w' ⟨rfl, hg⟩; obtain ⟨n, os, rfl⟩ := hg.out; clear hg) | (go_at_call 56; (with_reducible refine (HG _).mono ?_); rintro e w' ⟨rfl, hg⟩; obtain ⟨n, os, rfl⟩ := hg.out; clear hg))
    all_goals try (exfalso; simp_all; done)
    all_goals
      refine ⟨rfl, _, by simp [results, Try.results46, go_sem]; (repeat' first | rfl | apply And.intro), ret_rke ?_, (by repeat (first | exact Gr.refl _ | with_reducible apply Gr.alloc | with_reducible apply Gr.grow | with_reducible apply Gr.drewN | with_reducible apply Gr.drew))⟩
      have hb := HB.out
      try simp only [Bool.not_eq_true, win_not, win_iff, Bool.not_eq_false', beq_iff_eq, Bool.not_eq_true', beq_eq_false_iff_ne, decide_eq_true_eq, decide_eq_false_iff_not, bne_iff_ne, bne_eq_false_iff_eq, ne_eq, Int.not_lt, Int.not_le] at *
      try (have hw : wrap64 (ra + co) = ra + co := by unfold wrap64; omega
           simp only [hw] at *)
      unfold adoptR
      rw [HQ.out, HF2.out, HR.out]
      dsimp only
      repeat' split
      all_goals first | rfl | omega | (simp_all; done) | (simp_all; omega)
set_option maxHeartbeats 4000000 in
theorem rupdate (a0 a1 a2 a3 a4 a5 ep ra co : Int) (w : World) : Calls Try.prog 23 #[.agg #[.int .i64 a0, .int .i64 a1, .int .i64 a2, .int .i64 a3, .int .i64 a4, .int .i64 a5], .int .i64 ep, .int .i64 ra, .int .i64 co] w fun e w' =>
    e = .returned (.tuple #[vR (updateR ⟨a0, a1, a2, a3, a4, a5⟩ ep ra co).1, .int .i64 (updateR ⟨a0, a1, a2, a3, a4, a5⟩ ep ra co).2]) ∧ Gr w w' := by
  have HC := rcheck a0 a1 a2 a3 a4 a5
  generalize hq : checkR ⟨a0, a1, a2, a3, a4, a5⟩ = q at HC
  have HQ := Hd.mk hq
  clear hq
  have HA := radv ep ra
  generalize ha : (win ep 1 65535 && win ra 0 65534) = b at HA
  have HG := rbegin a0 a1 a2 a3 a4 a5 ep
  generalize hg : beginR ⟨a0, a1, a2, a3, a4, a5⟩ ep = r2 at HG
  obtain ⟨b0, b1, b2, b3, b4, b5⟩ := r2
  dsimp only [vR] at HG
  have HR := Hd.mk hg
  clear hg
  have HL := rlose b0 b1 b2 b3 b4 b5
  generalize hl : loseR ⟨b0, b1, b2, b3, b4, b5⟩ = r3 at HL
  obtain ⟨c0, c1, c2, c3, c4, c5⟩ := r3
  dsimp only [vR] at HL
  have HR3 := Hd.mk hl
  clear hl
  have HD := radopt a0 a1 a2 a3 a4 a5 a2 ep ra co
  generalize hd : adoptR ⟨a0, a1, a2, a3, a4, a5⟩ a2 ep ra co = r4 at HD
  obtain ⟨⟨d0, d1, d2, d3, d4, d5⟩, d6⟩ := r4
  dsimp only [vR] at HD
  have HR4 := Hd.mk hd
  clear hd
  cases b
  all_goals
    simp only [Bool.and_eq_true, Bool.and_eq_false_iff, win_iff, win_not] at ha
    have HB := Hd.mk ha
    clear ha
    go_enter Try.func23, Try.ntmps23
    go_wp2_with (first | (go_at_call 18; (with_reducible refine (HC _).mono ?_); rintro e w' ⟨rfl, hg⟩; obtain ⟨n, os, rfl⟩ := hg.out; clear hg) | (go_at_call 55; (with_reducible refine (HA _).mono ?_); rintro e w' ⟨rfl, rfl⟩) | (go_at_call 52; (with_reducible refine (rwithin _ _ _ _).mono ?_); rintro e w' ⟨rfl, rfl⟩) | (go_at_call 46; (with_reducible refine (HD _).mono ?_); rintro e w' ⟨rfl, hg⟩; obtain ⟨n, os, rfl⟩ := hg.out; clear hg) | (go_at_call 56; (with_reducible refine (HG _).mono ?_); rintro e w' ⟨rfl, hg⟩; obtain ⟨n, os, rfl⟩ := hg.out; clear hg) | (go_at_call 44; (with_reducible refine (HL _).mono ?_); rintro e w' ⟨rfl, hg⟩; obtain ⟨n, os, rfl⟩ := hg.out; clear hg))
    all_goals try (exfalso; simp_all; done)
    all_goals
      refine ⟨rfl, _, by simp [results, Try.results23, go_sem]; (repeat' first | rfl | apply And.intro), ret_rke ?_, (by repeat (first | exact Gr.refl _ | with_reducible apply Gr.alloc | with_reducible apply Gr.grow | with_reducible apply Gr.drewN | with_reducible apply Gr.drew))⟩
      have hb := HB.out
      try simp only [Bool.not_eq_true, win_not, win_iff, Bool.not_eq_false', beq_iff_eq, Bool.not_eq_true', beq_eq_false_iff_ne, decide_eq_true_eq, decide_eq_false_iff_not, bne_iff_ne, bne_eq_false_iff_eq, ne_eq, Int.not_lt, Int.not_le] at *
      unfold updateR
      dsimp only
      rw [HQ.out, HR4.out, HR.out, HR3.out]
      dsimp only
      repeat' split
      all_goals first | rfl | omega | (simp_all; done) | (simp_all; omega)
end Go.Proofs.Ytlifpafnkagofaa.F
