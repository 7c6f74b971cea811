import Derived.Test.YtlifpafnkagofaaF22
import Derived.Test.YtlifpafnkagofaaE0
/- hopmeshref23.Same and Count. -/
namespace Go.Proofs.Ytlifpafnkagofaa.F
open Go.RowKit Go.Sort Go.Proofs.Ytlifpafnkagofaa.B Go.Proofs.Ytlifpafnkagofaa.S
set_option linter.unusedVariables false
set_option linter.unusedSimpArgs false
def sameL (a b : List Nb) : Bool := decide (a = b)
theorem ext_nth {a b : List Nb} (hl : a.length = b.length) (h : ∀ k, k < a.length → nth a k = nth b k) : a = b := by
  apply List.ext_getElem hl
  intro i h1 h2
  have := h i h1
  rwa [nth_eq a i h1, nth_eq b i h2] at this
def nbEq (x y : Nb) : Bool := x.nd == y.nd && (x.ep == y.ep && (x.ra == y.ra && (x.sl == y.sl && (x.c.at_ == y.c.at_ && x.c.ak == y.c.ak))))
theorem nbEq_iff (x y : Nb) : nbEq x y = true ↔ x = y := by
  obtain ⟨x0, x1, x2, x3, ⟨x4, x5⟩⟩ := x
  obtain ⟨y0, y1, y2, y3, ⟨y4, y5⟩⟩ := y
  simp [nbEq]
theorem eqv (x0 y0 x1 y1 x2 y2 x3 y3 x4 y4 x5 y5 : Int) (w : World) :
    (Op.equalIn 10000 41 (.agg #[.int .i64 x0, .int .i64 x1, .int .i64 x2, .int .i64 x3, .int .i64 x4, .int .i64 x5]) (.agg #[.int .i64 y0, .int .i64 y1, .int .i64 y2, .int .i64 y3, .int .i64 y4, .int .i64 y5])).run Try.prog w = .ok (nbEq ⟨x0, x1, x2, x3, ⟨x4, x5⟩⟩ ⟨y0, y1, y2, y3, ⟨y4, y5⟩⟩) w := eq41 w ..
set_option maxHeartbeats 4000000 in
theorem xsame (A B : Option Addr) (c d : Nat) (a b : List Nb) (w : World) (ha : Rd w A a) (hb : Rd w B b) (hc : a.length ≤ c) (hd : b.length ≤ d) :
    Calls Try.prog 29 #[.slice A a.length c, .slice B b.length d] w fun e w' => e = .returned (.bool (sameL a b)) ∧ Gr w w' := by
  have hla := ha.1
  have hlb := hb.1
  have HA := Hd.mk ha
  have HB := Hd.mk hb
  clear ha hb
  have hm := mixed
  by_cases hl : a.length = b.length
  · have hlz : ((a.length : Int) == (b.length : Int)) = true := by simp; omega
    have hlz2 : ((a.length : Int) != (b.length : Int)) = false := by simp; omega
    have hl1 : a.length ≤ b.length := by omega
    have HL := Hd.mk hl
    clear hl
    go_enter Try.func29, Try.ntmps29
    go_wp2
    go_loopg [5] a.length (fun gg s5 wr => ∃ k : Nat, k ≤ a.length ∧ a.length - k ≤ gg ∧ s5 = .int .i64 k ∧ Hd (Gr w wr) ∧ Hd (∀ j, j < k → nth a j = nth b j))
    case atStart => exact ⟨0, Nat.zero_le _, by omega, rfl, ⟨Gr.refl w⟩, ⟨fun j hj => absurd hj (Nat.not_lt_zero _)⟩⟩
    case round =>
      obtain ⟨k, hk, hg, rfl, GW, CF⟩ := hrel
      by_cases hlt : k < a.length
      · obtain ⟨ba, oa, rfl, hba, hca⟩ := HA.out.2 (by omega)
        obtain ⟨bb, ob, rfl, hbb, hcb⟩ := HB.out.2 (by omega)
        obtain ⟨n, os, rfl⟩ := GW.out.out
        obtain ⟨k0, k1, k2, k3, k4, k5⟩ := hca k hlt
        obtain ⟨m0, m1, m2, m3, m4, m5⟩ := hcb k (by omega)
        have hltz : (k : Int) < (a.length : Int) := by omega
        have hltz2 : (k : Int) < (b.length : Int) := by omega
        have hkz : (0 : Int) ≤ (k : Int) := by omega
        generalize hx : nth a k = x at *
        generalize hy : nth b k = y at *
        obtain ⟨x0, x1, x2, x3, ⟨x4, x5⟩⟩ := x
        obtain ⟨y0, y1, y2, y3, ⟨y4, y5⟩⟩ := y
        dsimp only at *
        have HX := Hd.mk hx
        have HY := Hd.mk hy
        clear hx hy
        have heq := eqv x0 y0 x1 y1 x2 y2 x3 y3 x4 y4 x5 y5
        have hiff := nbEq_iff ⟨x0, x1, x2, x3, ⟨x4, x5⟩⟩ ⟨y0, y1, y2, y3, ⟨y4, y5⟩⟩
        generalize nbEq ⟨x0, x1, x2, x3, ⟨x4, x5⟩⟩ ⟨y0, y1, y2, y3, ⟨y4, y5⟩⟩ = q at *
        have HI := Hd.mk hiff
        have hg41 := guard41
        clear hiff
        cases q with
        | false =>
          go_wp2
          go_quiet (fail)
          go_wp2
          go_ret
          refine ⟨ret_bool ?_, (by repeat (first | exact Gr.refl _ | with_reducible apply Gr.alloc | with_reducible apply Gr.grow | with_reducible apply Gr.drewN | with_reducible apply Gr.drew))⟩
          unfold sameL
          rw [eq_comm, decide_eq_false_iff_not]
          intro e
          have : nth a k = nth b k := by rw [e]
          rw [HX.out, HY.out] at this
          exact absurd (HI.out.2 this) (by simp)
        | true =>
          go_wp2
          go_quiet (fail)
          go_wp2
          go_roundg (a.length - (k + 1))
          case measure => omega
          case rel =>
            refine ⟨k + 1, by omega, by omega, by go_num, ⟨(by repeat (first | exact Gr.refl _ | with_reducible apply Gr.alloc | with_reducible apply Gr.grow | with_reducible apply Gr.drewN | with_reducible apply Gr.drew))⟩, ⟨fun j hj => ?_⟩⟩
            rcases Nat.lt_or_ge j k with e | e
            · exact CF.out j e
            · obtain rfl : j = k := by omega
              rw [HX.out, HY.out]
              exact HI.out.1 (by simp)
      · obtain rfl : k = a.length := by omega
        have hltz : ¬ ((a.length : Int) < (a.length : Int)) := by omega
        obtain ⟨n, os, rfl⟩ := GW.out.out
        go_wp2
        go_ret
        refine ⟨ret_bool ?_, (by repeat (first | exact Gr.refl _ | with_reducible apply Gr.alloc | with_reducible apply Gr.grow | with_reducible apply Gr.drewN | with_reducible apply Gr.drew))⟩
        unfold sameL
        rw [eq_comm, decide_eq_true_eq]
        exact ext_nth HL.out CF.out
  · have hlz : ((a.length : Int) == (b.length : Int)) = false := by simp; omega
    have hlz2 : ((a.length : Int) != (b.length : Int)) = true := by simp; omega
    go_enter Try.func29, Try.ntmps29
    go_wp2
    go_ret
    refine ⟨ret_bool ?_, (by repeat (first | exact Gr.refl _ | with_reducible apply Gr.alloc | with_reducible apply Gr.grow | with_reducible apply Gr.drewN | with_reducible apply Gr.drew))⟩
    unfold sameL
    rw [eq_comm, decide_eq_false_iff_not]
    exact fun e => hl (by rw [e])
end Go.Proofs.Ytlifpafnkagofaa.F
