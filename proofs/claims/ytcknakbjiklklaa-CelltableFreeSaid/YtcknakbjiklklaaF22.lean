import Derived.Test.YtcknakbjiklklaaF17
/- hopmeshref16.SameCells. -/
namespace Go.Proofs.Ytcknakbjiklklaa.F
open Go.RowKit Go.Sort Go.Proofs.Ytcknakbjiklklaa.B Go.Proofs.Ytcknakbjiklklaa.S
set_option linter.unusedVariables false
set_option linter.unusedSimpArgs false
def tcEq (x y : TC) : Bool := x.sl == y.sl && (x.off == y.off && (x.ki == y.ki && (x.se == y.se && (x.pe == y.pe && x.fl == y.fl))))
theorem tcEq_iff (x y : TC) : tcEq x y = true ↔ x = y := by
  obtain ⟨x0, x1, x2, x3, x4, x5⟩ := x
  obtain ⟨y0, y1, y2, y3, y4, y5⟩ := y
  simp [tcEq]
theorem eqt (x0 y0 x1 y1 x2 y2 : Int) (x3 y3 : Bool) (x4 y4 x5 y5 : Int) (w : World) :
    (Op.equalIn 10000 43 (.agg #[.int .i64 x0, .int .i64 x1, .int .i64 x2, .bool x3, .int .i64 x4, .int .i64 x5]) (.agg #[.int .i64 y0, .int .i64 y1, .int .i64 y2, .bool y3, .int .i64 y4, .int .i64 y5])).run Try.prog w = .ok (tcEq ⟨x0, x1, x2, x3, x4, x5⟩ ⟨y0, y1, y2, y3, y4, y5⟩) w := eq43 w ..
set_option maxHeartbeats 4000000 in
theorem xsamec (A B : Option Addr) (c d : Nat) (a b : List TC) (w : World) (ha : Rd w A a) (hb : Rd w B b) (hc : a.length ≤ c) (hd : b.length ≤ d) :
    Calls Try.prog 27 #[.slice A a.length c, .slice B b.length d] w fun e w' => e = .returned (.bool (decide (a = b))) ∧ Gr w w' := by
  have hla := ha.1
  have hlb := hb.1
  have HA := Hd.mk ha
  have HB := Hd.mk hb
  clear ha hb
  have hm := mixed
  have hg43 := guard43
  by_cases hl : a.length = b.length
  · have hlz : ((a.length : Int) == (b.length : Int)) = true := by simp; omega
    have hlz2 : ((a.length : Int) != (b.length : Int)) = false := by simp; omega
    have hl1 : a.length ≤ b.length := by omega
    have HL := Hd.mk hl
    clear hl
    go_enter Try.func27, Try.ntmps27
    go_wp2
    go_loopg [5] a.length (fun gg s5 wr => ∃ k : Nat, k ≤ a.length ∧ a.length - k ≤ gg ∧ s5 = .int .i64 k ∧ Hd (Gr w wr) ∧ Hd (∀ j, j < k → nth a j = nth b j))
    case atStart => exact ⟨0, Nat.zero_le _, by omega, rfl, ⟨Gr.refl w⟩, ⟨fun j hj => absurd hj (Nat.not_lt_zero _)⟩⟩
    case round =>
      obtain ⟨k, hk, hg, rfl, GW, CF⟩ := hrel
      by_cases hlt : k < a.length
      · obtain ⟨ba, oa, rfl, hba, hca⟩ := HA.out.2 (by omega)
        obtain ⟨bb, ob, rfl, hbb, hcb⟩ := HB.out.2 (by omega)
        obtain ⟨n, os, rfl⟩ := GW.out.out
        obtain ⟨k0, k1, k2, k3, k4, k5⟩ := hca k hlt
        obtain ⟨m0, m1, m2, m3, m4, m5⟩ := hcb k (by omega)
        have hltz : (k : Int) < (a.length : Int) := by omega
        have hltz2 : (k : Int) < (b.length : Int) := by omega
        have hkz : (0 : Int) ≤ (k : Int) := by omega
        generalize hx : nth a k = x at *
        generalize hy : nth b k = y at *
        obtain ⟨x0, x1, x2, x3, x4, x5⟩ := x
        obtain ⟨y0, y1, y2, y3, y4, y5⟩ := y
        dsimp only at *
        have HX := Hd.mk hx
        have HY := Hd.mk hy
        clear hx hy
        have heq := eqt x0 y0 x1 y1 x2 y2 x3 y3 x4 y4 x5 y5
        have hiff := tcEq_iff ⟨x0, x1, x2, x3, x4, x5⟩ ⟨y0, y1, y2, y3, y4, y5⟩
        generalize tcEq ⟨x0, x1, x2, x3, x4, x5⟩ ⟨y0, y1, y2, y3, y4, y5⟩ = q at *
        have HI := Hd.mk hiff
        clear hiff
        cases q with
        | false =>
          go_wp2
          go_quiet (fail)
          go_wp2
          go_ret
          refine ⟨ret_bool ?_, (by repeat (first | exact Gr.refl _ | with_reducible apply Gr.alloc | with_reducible apply Gr.grow | with_reducible apply Gr.drewN | with_reducible apply Gr.drew))⟩
          rw [eq_comm, decide_eq_false_iff_not]
          intro e
          have : nth a k = nth b k := by rw [e]
          rw [HX.out, HY.out] at this
          exact absurd (HI.out.2 this) (by simp)
        | true =>
          go_wp2
          go_quiet (fail)
          go_wp2
          go_roundg (a.length - (k + 1))
          case measure => omega
          case rel =>
            refine ⟨k + 1, by omega, by omega, by go_num, ⟨(by repeat (first | exact Gr.refl _ | with_reducible apply Gr.alloc | with_reducible apply Gr.grow | with_reducible apply Gr.drewN | with_reducible apply Gr.drew))⟩, ⟨fun j hj => ?_⟩⟩
            rcases Nat.lt_or_ge j k with e | e
            · exact CF.out j e
            · obtain rfl : j = k := by omega
              rw [HX.out, HY.out]
              exact HI.out.1 (by simp)
      · obtain rfl : k = a.length := by omega
        have hltz : ¬ ((a.length : Int) < (a.length : Int)) := by omega
        obtain ⟨n, os, rfl⟩ := GW.out.out
        go_wp2
        go_ret
        refine ⟨ret_bool ?_, (by repeat (first | exact Gr.refl _ | with_reducible apply Gr.alloc | with_reducible apply Gr.grow | with_reducible apply Gr.drewN | with_reducible apply Gr.drew))⟩
        rw [eq_comm, decide_eq_true_eq]
        exact ext_nth HL.out CF.out
  · have hlz : ((a.length : Int) == (b.length : Int)) = false := by simp; omega
    have hlz2 : ((a.length : Int) != (b.length : Int)) = true := by simp; omega
    go_enter Try.func27, Try.ntmps27
    go_wp2
    go_ret
    refine ⟨ret_bool ?_, (by repeat (first | exact Gr.refl _ | with_reducible apply Gr.alloc | with_reducible apply Gr.grow | with_reducible apply Gr.drewN | with_reducible apply Gr.drew))⟩
    rw [eq_comm, decide_eq_false_iff_not]
    exact fun e => hl (by rw [e])
end Go.Proofs.Ytcknakbjiklklaa.F
