import Derived.Test.YtlifpafnkagofaaF8
namespace Go.Proofs.Ytlifpafnkagofaa.F
open Go.RowKit Go.Sort Go.Proofs.Ytlifpafnkagofaa.B Go.Proofs.Ytlifpafnkagofaa.S
set_option linter.unusedVariables false
set_option linter.unusedSimpArgs false
def vL (x : Lk) : Value := .agg #[.int .i64 x.nb.nd, .int .i64 x.nb.ep, .int .i64 x.nb.ra, .int .i64 x.nb.sl, .int .i64 x.nb.c.at_, .int .i64 x.nb.c.ak, .int .i64 x.ix, .int .i64 x.co]
theorem ret_lk {r : Lk} {a0 a1 a2 a3 a4 a5 a6 a7 : Int} (h : r = ⟨⟨a0, a1, a2, a3, ⟨a4, a5⟩⟩, a6, a7⟩) : Ending.returned (.agg #[.int .i64 a0, .int .i64 a1, .int .i64 a2, .int .i64 a3, .int .i64 a4, .int .i64 a5, .int .i64 a6, .int .i64 a7]) = .returned (vL r) := by rw [h]; rfl
/-- A link's eight cells. -/
def C61 (w : World) (b o : Nat) (x : Lk) : Prop :=
  w.cell? ⟨b, o, none⟩ = some (.int .i64 x.nb.nd) ∧ w.cell? ⟨b, o + 1, none⟩ = some (.int .i64 x.nb.ep) ∧ w.cell? ⟨b, o + 2, none⟩ = some (.int .i64 x.nb.ra) ∧
  w.cell? ⟨b, o + 3, none⟩ = some (.int .i64 x.nb.sl) ∧ w.cell? ⟨b, o + 4, none⟩ = some (.int .i64 x.nb.c.at_) ∧ w.cell? ⟨b, o + 5, none⟩ = some (.int .i64 x.nb.c.ak) ∧
  w.cell? ⟨b, o + 6, none⟩ = some (.int .i64 x.ix) ∧ w.cell? ⟨b, o + 7, none⟩ = some (.int .i64 x.co)
def RdL (w : World) (A : Option Addr) (l : List Lk) : Prop :=
  l.length ≤ 9223372036854775807 ∧ (0 < l.length → ∃ b off, A = some ⟨b, off, none⟩ ∧ b < w.heap.size ∧ ∀ j, j < l.length → C61 w b (off + j * 8) (nth l j))
set_option maxHeartbeats 4000000 in
theorem pmin (A : Option Addr) (c : Nat) (l : List Lk) (w : World) (hr : RdL w A l) (hc : l.length ≤ c) (hn : 0 < l.length) (hk : ∀ j, j < l.length → okK (nth l j)) :
    Calls Try.prog 64 #[.slice A l.length c, .func (.func 65) #[] #[]] w fun e w' => e = .returned (vL (minF (nth l 0) (l.drop 1))) ∧ Gr w w' := by
  have hm := mixed
  have hl := hr.1
  obtain ⟨b, off, rfl, hb, hcell⟩ := hr.2 hn
  have HCell := Hd.mk hcell
  have HK := Hd.mk hk
  have hn' : (1 : Int) ≤ (l.length : Int) := by omega
  obtain ⟨f0, f1, f2, f3, f4, f5, f6, f7⟩ := hcell 0 hn
  simp only [Nat.zero_mul, Nat.add_zero] at f0 f1 f2 f3 f4 f5 f6 f7
  clear hcell hk hr
  generalize hres : minF (nth l 0) (l.drop 1) = res
  have HR := Hd.mk hres
  clear hres
  generalize hx : nth l 0 = x at *
  have HX := Hd.mk hx
  clear hx
  obtain ⟨⟨x0, x1, x2, x3, ⟨x4, x5⟩⟩, x6, x7⟩ := x
  dsimp only at *
  go_enter Try.func64, Try.ntmps64
  go_wp2
  go_loopg [6] l.length (fun gg s6 wr => ∃ (k : Nat) (m0 m1 m2 m3 m4 m5 m6 m7 : Int), 1 ≤ k ∧ k ≤ l.length ∧ l.length - k ≤ gg ∧ s6 = .int .i64 k ∧
    Hd (∃ n os, wr = Sort.grow (((w.alloc (.cells #[.int .i64 0, .int .i64 0, .int .i64 0, .int .i64 0, .int .i64 0, .int .i64 0, .int .i64 0, .int .i64 0] 61)).alloc (.cells #[.int .i64 m0, .int .i64 m1, .int .i64 m2, .int .i64 m3, .int .i64 m4, .int .i64 m5, .int .i64 m6, .int .i64 m7] 61)).drewN n) os) ∧
    Hd (okK ⟨⟨m0, m1, m2, m3, ⟨m4, m5⟩⟩, m6, m7⟩ ∧ res = minF ⟨⟨m0, m1, m2, m3, ⟨m4, m5⟩⟩, m6, m7⟩ (l.drop k)))
  case atStart => exact ⟨1, x0, x1, x2, x3, x4, x5, x6, x7, Nat.le_refl _, hn, by omega, rfl, ⟨0, #[], by rw [grow_empty, World.drewN_zero]⟩, ⟨by have := HK.out 0 hn; rw [HX.out] at this; exact this, HR.out.symm⟩⟩
  case round =>
    obtain ⟨k, m0, m1, m2, m3, m4, m5, m6, m7, hk1, hk, hg, rfl, HW, IM⟩ := hrel
    by_cases hlt : k < l.length
    · obtain ⟨n, os, hw⟩ := HW.out
      have hyk := HK.out k hlt
      obtain ⟨e0, e1, e2, e3, e4, e5, e6, e7⟩ := HCell.out k hlt
      have hdrop := drop_at l k hlt
      generalize hy : nth l k = y at *
      obtain ⟨⟨y0, y1, y2, y3, ⟨y4, y5⟩⟩, y6, y7⟩ := y
      dsimp only at *
      clear hy
      have hbw : b < wr.heap.size := by rw [hw]; simp; omega
      have hmw : w.heap.size + 1 < wr.heap.size := by rw [hw]; simp; omega
      have g0 : wr.cell? ⟨w.heap.size + 1, 0, none⟩ = some (.int .i64 m0) := by rw [hw]; go_simp
      have g1 : wr.cell? ⟨w.heap.size + 1, 1, none⟩ = some (.int .i64 m1) := by rw [hw]; go_simp
      have g2 : wr.cell? ⟨w.heap.size + 1, 2, none⟩ = some (.int .i64 m2) := by rw [hw]; go_simp
      have g3 : wr.cell? ⟨w.heap.size + 1, 3, none⟩ = some (.int .i64 m3) := by rw [hw]; go_simp
      have g4 : wr.cell? ⟨w.heap.size + 1, 4, none⟩ = some (.int .i64 m4) := by rw [hw]; go_simp
      have g5 : wr.cell? ⟨w.heap.size + 1, 5, none⟩ = some (.int .i64 m5) := by rw [hw]; go_simp
      have g6 : wr.cell? ⟨w.heap.size + 1, 6, none⟩ = some (.int .i64 m6) := by rw [hw]; go_simp
      have g7 : wr.cell? ⟨w.heap.size + 1, 7, none⟩ = some (.int .i64 m7) := by rw [hw]; go_simp
      have h0 : wr.cell? ⟨b, off + k * 8, none⟩ = some (.int .i64 y0) := by rw [hw]; go_simp
      have h1 : wr.cell? ⟨b, off + k * 8 + 1, none⟩ = some (.int .i64 y1) := by rw [hw]; go_simp
      have h2 : wr.cell? ⟨b, off + k * 8 + 2, none⟩ = some (.int .i64 y2) := by rw [hw]; go_simp
      have h3 : wr.cell? ⟨b, off + k * 8 + 3, none⟩ = some (.int .i64 y3) := by rw [hw]; go_simp
      have h4 : wr.cell? ⟨b, off + k * 8 + 4, none⟩ = some (.int .i64 y4) := by rw [hw]; go_simp
      have h5 : wr.cell? ⟨b, off + k * 8 + 5, none⟩ = some (.int .i64 y5) := by rw [hw]; go_simp
      have h6 : wr.cell? ⟨b, off + k * 8 + 6, none⟩ = some (.int .i64 y6) := by rw [hw]; go_simp
      have h7 : wr.cell? ⟨b, off + k * 8 + 7, none⟩ = some (.int .i64 y7) := by rw [hw]; go_simp
      have HWe := Hd.mk hw
      have HE := Hd.mk (And.intro e0 (And.intro e1 (And.intro e2 (And.intro e3 (And.intro e4 (And.intro e5 (And.intro e6 e7)))))))
      have hmk := IM.out.1
      have hbet : ∀ W, Calls Try.prog 65 #[vL ⟨⟨y0, y1, y2, y3, ⟨y4, y5⟩⟩, y6, y7⟩, vL ⟨⟨m0, m1, m2, m3, ⟨m4, m5⟩⟩, m6, m7⟩] W fun e w' => e = .returned (.int .i64 (betS ⟨⟨y0, y1, y2, y3, ⟨y4, y5⟩⟩, y6, y7⟩ ⟨⟨m0, m1, m2, m3, ⟨m4, m5⟩⟩, m6, m7⟩)) ∧ Gr W w' := fun W =>
        better_ y0 y1 y2 y3 y4 y5 y6 y7 m0 m1 m2 m3 m4 m5 m6 m7 hyk.1 hyk.2.1 hyk.2.2.1 hyk.2.2.2 hmk.1 hmk.2.1 hmk.2.2.1 hmk.2.2.2 W
      have HD := Hd.mk hdrop
      have HY := Hd.mk hyk
      have HM := Hd.mk hmk
      clear hw hdrop hyk hmk e0 e1 e2 e3 e4 e5 e6 e7 f0 f1 f2 f3 f4 f5 f6 f7
      generalize hq : betS ⟨⟨y0, y1, y2, y3, ⟨y4, y5⟩⟩, y6, y7⟩ ⟨⟨m0, m1, m2, m3, ⟨m4, m5⟩⟩, m6, m7⟩ = q at hbet
      have HQ := Hd.mk hq
      clear hq
      have hltz : (k : Int) < (l.length : Int) := by omega
      have hk0 : (0 : Int) ≤ (k : Int) := by omega
      simp only [vL] at hbet
      by_cases hq : q < 0
      · go_wp2
        go_quiet_grown (first | (go_at_call 65; exact quiet_grown rfl (hbet _)))
        clear g0 g1 g2 g3 g4 g5 g6 g7 h0 h1 h2 h3 h4 h5 h6 h7 hbw hmw HW
        obtain rfl := HWe.out
        clear HWe
        obtain ⟨e0, e1, e2, e3, e4, e5, e6, e7⟩ := HE.out
        go_wp2
        go_roundg (l.length - (k + 1))
        case measure => omega
        case rel => exact ⟨k + 1, y0, y1, y2, y3, y4, y5, y6, y7, by omega, by omega, by omega, by go_num, ⟨_, _, rfl⟩, ⟨HY.out, by rw [IM.out.2, HD.out]; simp only [minF]; rw [HQ.out, if_pos hq]⟩⟩
      · go_wp2
        go_quiet_grown (first | (go_at_call 65; exact quiet_grown rfl (hbet _)))
        clear g0 g1 g2 g3 g4 g5 g6 g7 h0 h1 h2 h3 h4 h5 h6 h7 hbw hmw HW
        obtain rfl := HWe.out
        clear HWe
        go_wp2
        go_roundg (l.length - (k + 1))
        case measure => omega
        case rel => exact ⟨k + 1, m0, m1, m2, m3, m4, m5, m6, m7, by omega, by omega, by omega, by go_num, ⟨_, _, rfl⟩, ⟨HM.out, by rw [IM.out.2, HD.out]; simp only [minF]; rw [HQ.out, if_neg (by omega)]⟩⟩
    · obtain rfl : k = l.length := by omega
      have hltz : ¬ ((l.length : Int) < (l.length : Int)) := by omega
      obtain ⟨n, os, rfl⟩ := HW.out
      clear f0 f1 f2 f3 f4 f5 f6 f7
      go_wp2
      refine ⟨rfl, _, by simp [results, Try.results64, go_sem]; (repeat' first | rfl | apply And.intro), ret_lk ?_, (by repeat (first | exact Gr.refl _ | with_reducible apply Gr.alloc | with_reducible apply Gr.grow | with_reducible apply Gr.drewN | with_reducible apply Gr.drew))⟩
      rw [IM.out.2]
      simp [minF]
end Go.Proofs.Ytlifpafnkagofaa.F
