import Derived.Test.YtcknakbjiklklaaF4
import Derived.Test.YtcknakbjiklklaaE0
import Derived.Test.YtcknakbjiklklaaH1
import Derived.Test.YtcknakbjiklklaaS11
/- slices.Contains for a schedule's cells; the law's own predicate. -/
namespace Go.Proofs.Ytcknakbjiklklaa.F
open Go.RowKit Go.Sort Go.Proofs.Ytcknakbjiklklaa.B Go.Proofs.Ytcknakbjiklklaa.S
set_option linter.unusedVariables false
set_option linter.unusedSimpArgs false
def scEq (x y : SC) : Bool := x.sl == y.sl && (x.off == y.off && (x.fr == y.fr && (x.tt == y.tt && x.fl == y.fl)))
theorem scEq_iff (x y : SC) : scEq x y = true ↔ x = y := by
  obtain ⟨x0, x1, x2, x3, x4⟩ := x
  obtain ⟨y0, y1, y2, y3, y4⟩ := y
  simp [scEq]
theorem eqs (x0 y0 x1 y1 x2 y2 x3 y3 x4 y4 : Int) (w : World) :
    (Op.equalIn 10000 45 (.agg #[.int .i64 x0, .int .i64 x1, .int .i64 x2, .int .i64 x3, .int .i64 x4]) (.agg #[.int .i64 y0, .int .i64 y1, .int .i64 y2, .int .i64 y3, .int .i64 y4])).run Try.prog w = .ok (scEq ⟨x0, x1, x2, x3, x4⟩ ⟨y0, y1, y2, y3, y4⟩) w := eq45 w ..
/-- A schedule's cell in a box. -/
structure T5 (w : World) (b : Nat) (x : SC) : Prop where
  lt : b < w.heap.size
  c0 : w.cell? ⟨b, 0, none⟩ = some (.int .i64 x.sl)
  c1 : w.cell? ⟨b, 1, none⟩ = some (.int .i64 x.off)
  c2 : w.cell? ⟨b, 2, none⟩ = some (.int .i64 x.fr)
  c3 : w.cell? ⟨b, 3, none⟩ = some (.int .i64 x.tt)
  c4 : w.cell? ⟨b, 4, none⟩ = some (.int .i64 x.fl)
theorem T5.bl {w W : World} {b : Nat} {x : SC} (h : T5 w b x) (hb : Bl w W) : T5 W b x :=
  ⟨Nat.lt_of_lt_of_le h.lt hb.size, (Below.cell hb (p := ⟨b, 0, none⟩) h.lt).trans h.c0, (Below.cell hb (p := ⟨b, 1, none⟩) h.lt).trans h.c1, (Below.cell hb (p := ⟨b, 2, none⟩) h.lt).trans h.c2,
    (Below.cell hb (p := ⟨b, 3, none⟩) h.lt).trans h.c3, (Below.cell hb (p := ⟨b, 4, none⟩) h.lt).trans h.c4⟩
set_option maxHeartbeats 4000000 in
theorem sindex (A : Option Addr) (c : Nat) (l : List SC) (x : SC) (w : World) (hr : RdS w A l) (hc : l.length ≤ c) :
    Calls Try.prog 56 #[.slice A l.length c, vS x] w fun e w' => e = .returned (.int .i64 (idxF (scEq x) l 0)) ∧ Gr w w' := by
  have hm := mixed
  have hg45 := guard45
  have hl := hr.1
  have HR := Hd.mk hr
  clear hr
  obtain ⟨y0, y1, y2, y3, y4⟩ := x
  simp only [vS]
  generalize hres : idxF (scEq ⟨y0, y1, y2, y3, y4⟩) l 0 = res
  have HRes := Hd.mk hres
  clear hres
  go_enter Try.func56, Try.ntmps56
  go_upto_region 2 with fail
  generalize hW : World.alloc _ _ = W
  have HWe := Hd.mk hW
  clear hW
  have H1 : Hd (T5 W w.heap.size ⟨y0, y1, y2, y3, y4⟩) := ⟨⟨by rw [← HWe.out]; simp [go_sem], by rw [← HWe.out]; go_simp, by rw [← HWe.out]; go_simp, by rw [← HWe.out]; go_simp, by rw [← HWe.out]; go_simp, by rw [← HWe.out]; go_simp⟩⟩
  have HG : Hd (Gr w W) := ⟨by rw [← HWe.out]; exact (by repeat (first | exact Gr.refl _ | with_reducible apply Gr.alloc | with_reducible apply Gr.grow | with_reducible apply Gr.drewN | with_reducible apply Gr.drew))⟩
  have HR2 := Hd.mk (HR.out.gr HG.out)
  clear HWe HR
  go_loopg [5, 8] l.length (fun gg s5 s8 wr => ∃ k : Nat, k ≤ l.length ∧ l.length - k ≤ gg ∧ s8 = .int .i64 k ∧ Hd (Gr W wr) ∧ Hd (res = idxF (scEq ⟨y0, y1, y2, y3, y4⟩) (l.drop k) k))
  case atStart => exact ⟨0, Nat.zero_le _, by omega, rfl, ⟨Gr.refl _⟩, ⟨HRes.out.symm⟩⟩
  case round =>
    obtain ⟨k, hk, hg, rfl, GW, CF⟩ := hrel
    by_cases hlt : k < l.length
    · obtain ⟨b, off, rfl, hb, hcell⟩ := (HR2.out.gr GW.out).2 (by omega)
      obtain ⟨k0, k1, k2, k3, k4⟩ := hcell k hlt
      obtain ⟨zz, e0, e1, e2, e3, e4⟩ := H1.out.bl GW.out.bl
      dsimp only at e0 e1 e2 e3 e4
      have hltz : (k : Int) < (l.length : Int) := by omega
      have hkz : (0 : Int) ≤ (k : Int) := by omega
      have hyes := idxF_yes (p := scEq ⟨y0, y1, y2, y3, y4⟩) hlt
      have hno := idxF_no (p := scEq ⟨y0, y1, y2, y3, y4⟩) hlt
      clear hcell
      generalize hx : nth l k = x at *
      obtain ⟨x0, x1, x2, x3, x4⟩ := x
      dsimp only at *
      clear hx
      have HYes := Hd.mk hyes
      have HNo := Hd.mk hno
      clear hyes hno
      have heq := fun W => eqs y0 x0 y1 x1 y2 x2 y3 x3 y4 x4 W
      generalize scEq ⟨y0, y1, y2, y3, y4⟩ ⟨x0, x1, x2, x3, x4⟩ = q at *
      cases q with
      | true =>
        go_upto_region 4 with fail
        go_quiet (fail)
        go_wp2
        go_ret
        exact ⟨ret_i (by rw [CF.out, HYes.out (by first | trivial | rfl)]), HG.out.trans (GW.out.trans (by repeat (first | exact Gr.refl _ | with_reducible apply Gr.alloc | with_reducible apply Gr.grow | with_reducible apply Gr.drewN | with_reducible apply Gr.drew)))⟩
      | false =>
        go_upto_region 4 with fail
        go_quiet (fail)
        go_wp2
        go_roundg (l.length - (k + 1))
        case measure => omega
        case rel => exact ⟨k + 1, by omega, by omega, by go_num, ⟨GW.out.trans (by repeat (first | exact Gr.refl _ | with_reducible apply Gr.alloc | with_reducible apply Gr.grow | with_reducible apply Gr.drewN | with_reducible apply Gr.drew))⟩, ⟨by rw [CF.out, HNo.out (by first | trivial | rfl)]⟩⟩
    · obtain rfl : k = l.length := by omega
      have hltz : ¬ ((l.length : Int) < (l.length : Int)) := by omega
      go_wp2
      go_ret
      exact ⟨ret_i (by rw [CF.out, idxF_end]), HG.out.trans (GW.out.trans (by repeat (first | exact Gr.refl _ | with_reducible apply Gr.alloc | with_reducible apply Gr.grow | with_reducible apply Gr.drewN | with_reducible apply Gr.drew)))⟩
theorem scontains (A : Option Addr) (c : Nat) (l : List SC) (x : SC) (w : World) (hr : RdS w A l) (hc : l.length ≤ c) (hx : x ∈ l) :
    Calls Try.prog 22 #[.slice A l.length c, vS x] w fun e w' => e = .returned (.bool true) ∧ Gr w w' := by
  have hI : ∀ W, Gr w W → _ := fun W h => sindex A c l x W (hr.gr h) hc
  obtain ⟨j, hj⟩ : ∃ j : Nat, idxF (scEq x) l 0 = (j : Int) := by
    rcases idxF_spec (scEq x) l 0 with ⟨_, e⟩ | ⟨j, _, e, _⟩
    · have := e x hx
      rw [(scEq_iff x x).2 rfl] at this
      cases this
    · exact ⟨0 + j, e⟩
  rw [hj] at hI
  clear hr hx hj
  obtain ⟨y0, y1, y2, y3, y4⟩ := x
  simp only [vS] at hI ⊢
  have hjz : (0 : Int) ≤ (j : Int) := by omega
  go_enter Try.func22, Try.ntmps22
  go_wp2_with (go_at_call 56; (with_reducible refine (hI _ (by repeat (first | exact Gr.refl _ | with_reducible apply Gr.alloc | with_reducible apply Gr.grow | with_reducible apply Gr.drewN | with_reducible apply Gr.drew))).mono ?_); rintro e w' ⟨rfl, hg⟩; obtain ⟨n, os, rfl⟩ := hg.out; clear hg)
  go_ret
  exact ⟨ret_bool (by simp), (by repeat (first | exact Gr.refl _ | with_reducible apply Gr.alloc | with_reducible apply Gr.grow | with_reducible apply Gr.drewN | with_reducible apply Gr.drew))⟩
theorem eq24 : ∀ args W, (callFunc 24 args).run Try.prog W = .ok (.enter 24 args) W := enters_of Try.func24 (by kernel_rfl) rfl
set_option maxHeartbeats 2000000 in
theorem clo24 (b d : Nat) (s k : Int) (x : SC) (w : World) (hb : w.cell? ⟨b, 0, none⟩ = some (.int .i64 s)) (hd : w.cell? ⟨d, 0, none⟩ = some (.int .i64 k)) :
    Calls Try.prog 24 (#[vS x] ++ #[.pointer (some ⟨b, 0, none⟩), .pointer (some ⟨d, 0, none⟩)]) w fun e w' => e = .returned (.bool (x.sl == s && x.off == k)) ∧ Gr w w' := by
  obtain ⟨x0, x1, x2, x3, x4⟩ := x
  have zb := World.block_lt_of_cell? w _ hb
  have zd := World.block_lt_of_cell? w _ hd
  simp only [vS]
  generalize hq : (x0 == s) = q
  cases q
  all_goals
    go_enter Try.func24, Try.ntmps24
    go_wp2
    go_ret
    exact ⟨ret_bool (by simp), (by repeat (first | exact Gr.refl _ | with_reducible apply Gr.alloc | with_reducible apply Gr.grow | with_reducible apply Gr.drewN | with_reducible apply Gr.drew))⟩
theorem sused (A : Option Addr) (c : Nat) (l : List SC) (s k : Int) (b d : Nat) (w : World) (hr : RdS w A l) (hc : l.length ≤ c) (hb : w.cell? ⟨b, 0, none⟩ = some (.int .i64 s)) (hd : w.cell? ⟨d, 0, none⟩ = some (.int .i64 k)) :
    Calls Try.prog 23 #[.slice A l.length c, .func (.func 24) #[] #[.pointer (some ⟨b, 0, none⟩), .pointer (some ⟨d, 0, none⟩)]] w fun e w' => e = .returned (.bool (usedP l s k)) ∧ Gr w w' := by
  have zb := World.block_lt_of_cell? w _ hb
  have zd := World.block_lt_of_cell? w _ hd
  have h := shasf 24 #[.pointer (some ⟨b, 0, none⟩), .pointer (some ⟨d, 0, none⟩)] eq24 (fun x => x.sl == s && x.off == k) A c l w hr hc (fun x Y hY => clo24 b d s k x Y ((hY.below.cell (p := ⟨b, 0, none⟩) zb).trans hb) ((hY.below.cell (p := ⟨d, 0, none⟩) zd).trans hd))
  rw [hasF_any] at h
  exact h
end Go.Proofs.Ytcknakbjiklklaa.F
