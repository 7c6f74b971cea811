import Derived.Test.YtcknakbjiklklaaF1
import Derived.Test.YtcknakbjiklklaaS1
/- Schedules that are read; celltable.right. -/
namespace Go.Proofs.Ytcknakbjiklklaa.F
open Go.RowKit Go.Sort Go.Proofs.Ytcknakbjiklklaa.B Go.Proofs.Ytcknakbjiklklaa.S
set_option linter.unusedVariables false
set_option linter.unusedSimpArgs false
def vS (x : SC) : Value := .agg #[.int .i64 x.sl, .int .i64 x.off, .int .i64 x.fr, .int .i64 x.tt, .int .i64 x.fl]
def C45 (w : World) (b o : Nat) (x : SC) : Prop :=
  w.cell? ⟨b, o, none⟩ = some (.int .i64 x.sl) ∧ w.cell? ⟨b, o + 1, none⟩ = some (.int .i64 x.off) ∧ w.cell? ⟨b, o + 2, none⟩ = some (.int .i64 x.fr) ∧
  w.cell? ⟨b, o + 3, none⟩ = some (.int .i64 x.tt) ∧ w.cell? ⟨b, o + 4, none⟩ = some (.int .i64 x.fl)
/-- A schedule's list that is read. -/
def RdS (w : World) (A : Option Addr) (l : List SC) : Prop :=
  l.length ≤ 9223372036854775807 ∧ (0 < l.length → ∃ b off, A = some ⟨b, off, none⟩ ∧ b < w.heap.size ∧ ∀ j, j < l.length → C45 w b (off + j * 5) (nth l j))
theorem RdS.bl {w W : World} {A : Option Addr} {l : List SC} (h : RdS w A l) (hg : Bl w W) : RdS W A l := by
  refine ⟨h.1, fun hl => ?_⟩
  obtain ⟨b, off, e, hb, hc⟩ := h.2 hl
  refine ⟨b, off, e, Nat.lt_of_lt_of_le hb hg.size, fun j hj => ?_⟩
  have hf : ∀ o, W.cell? ⟨b, o, none⟩ = w.cell? ⟨b, o, none⟩ := fun o => Below.cell hg (p := ⟨b, o, none⟩) hb
  unfold C45
  simp only [hf]
  exact hc j hj
theorem RdS.gr {w W : World} {A : Option Addr} {l : List SC} (h : RdS w A l) (hg : Gr w W) : RdS W A l := h.bl hg.bl
set_option maxHeartbeats 2000000 in
theorem sindexf (g : FuncId) (lb : Array Value) (eg : ∀ args W, (callFunc g args).run Try.prog W = .ok (.enter g args) W) (p : SC → Bool) (A : Option Addr) (c : Nat) (l : List SC) (w : World) (hr : RdS w A l) (hc : l.length ≤ c)
    (hp : ∀ x W, Gr w W → Calls Try.prog g (#[vS x] ++ lb) W fun e w' => e = .returned (.bool (p x)) ∧ Gr W w') :
    Calls Try.prog 57 #[.slice A l.length c, .func (.func g) #[] lb] w fun e w' => e = .returned (.int .i64 (idxF p l 0)) ∧ Gr w w' := by
  have hl := hr.1
  have HR := Hd.mk hr
  have HP := Hd.mk hp
  clear hr hp
  generalize hres : idxF p l 0 = res
  have HRes := Hd.mk hres
  clear hres
  go_enter Try.func57, Try.ntmps57
  go_wp2
  go_loopg [5, 8] l.length (fun gg s5 s8 wr => ∃ k : Nat, k ≤ l.length ∧ l.length - k ≤ gg ∧ s8 = .int .i64 k ∧ Hd (Gr w wr) ∧ Hd (res = idxF p (l.drop k) k))
  case atStart => exact ⟨0, Nat.zero_le _, by omega, rfl, ⟨Gr.refl w⟩, ⟨HRes.out.symm⟩⟩
  case round =>
    obtain ⟨k, hk, hg, rfl, GW, CF⟩ := hrel
    by_cases hlt : k < l.length
    · obtain ⟨b, off, rfl, hb, hcell⟩ := HR.out.2 (by omega)
      obtain ⟨n, os, rfl⟩ := GW.out.out
      obtain ⟨k0, k1, k2, k3, k4⟩ := hcell k hlt
      have hltz : (k : Int) < (l.length : Int) := by omega
      have hyes := idxF_yes (p := p) hlt
      have hno := idxF_no (p := p) hlt
      have hcall := HP.out (nth l k)
      generalize hx : nth l k = x at *
      obtain ⟨x0, x1, x2, x3, x4⟩ := x
      simp only [vS] at *
      clear hx
      have HYes := Hd.mk hyes
      have HNo := Hd.mk hno
      clear hyes hno
      generalize hq : p ⟨x0, x1, x2, x3, x4⟩ = q at *
      have HQ := Hd.mk hq
      clear hq
      cases q with
      | true =>
        go_wp2_with (go_at_fn g; (with_reducible refine (hcall _ GW.out).mono ?_); rintro e w' ⟨rfl, hg⟩; obtain ⟨n, os, rfl⟩ := hg.out; clear hg)
        go_ret
        exact ⟨ret_i (by rw [CF.out, HYes.out (by simp)]), (by repeat (first | exact Gr.refl _ | with_reducible apply Gr.alloc | with_reducible apply Gr.grow | with_reducible apply Gr.drewN | with_reducible apply Gr.drew))⟩
      | false =>
        go_wp2_with (go_at_fn g; (with_reducible refine (hcall _ GW.out).mono ?_); rintro e w' ⟨rfl, hg⟩; obtain ⟨n, os, rfl⟩ := hg.out; clear hg)
        go_roundg (l.length - (k + 1))
        case measure => omega
        case rel => exact ⟨k + 1, by omega, by omega, by go_num, ⟨(by repeat (first | exact Gr.refl _ | with_reducible apply Gr.alloc | with_reducible apply Gr.grow | with_reducible apply Gr.drewN | with_reducible apply Gr.drew))⟩, ⟨by rw [CF.out, HNo.out (by simp)]⟩⟩
    · obtain rfl : k = l.length := by omega
      have hltz : ¬ ((l.length : Int) < (l.length : Int)) := by omega
      obtain ⟨n, os, rfl⟩ := GW.out.out
      go_wp2
      go_ret
      exact ⟨ret_i (by rw [CF.out, idxF_end]), (by repeat (first | exact Gr.refl _ | with_reducible apply Gr.alloc | with_reducible apply Gr.grow | with_reducible apply Gr.drewN | with_reducible apply Gr.drew))⟩
theorem shasf (g : FuncId) (lb : Array Value) (eg : ∀ args W, (callFunc g args).run Try.prog W = .ok (.enter g args) W) (p : SC → Bool) (A : Option Addr) (c : Nat) (l : List SC) (w : World) (hr : RdS w A l) (hc : l.length ≤ c)
    (hp : ∀ x W, Gr w W → Calls Try.prog g (#[vS x] ++ lb) W fun e w' => e = .returned (.bool (p x)) ∧ Gr W w') :
    Calls Try.prog 23 #[.slice A l.length c, .func (.func g) #[] lb] w fun e w' => e = .returned (.bool (hasF p l)) ∧ Gr w w' := by
  have hI := sindexf g lb eg p A c l w hr hc hp
  unfold hasF
  generalize idxF p l 0 = i at *
  clear hr hp
  go_enter Try.func23, Try.ntmps23
  go_wp2_with (first | (go_at_call 57; (with_reducible refine hI.mono ?_); rintro e w' ⟨rfl, hg⟩; obtain ⟨n, os, rfl⟩ := hg.out; clear hg))
  go_ret
  exact ⟨ret_bool rfl, (by repeat (first | exact Gr.refl _ | with_reducible apply Gr.alloc | with_reducible apply Gr.grow | with_reducible apply Gr.drewN | with_reducible apply Gr.drew))⟩
theorem eq73 : ∀ args W, (callFunc 73 args).run Try.prog W = .ok (.enter 73 args) W := enters_of Try.func73 (by kernel_rfl) rfl
set_option maxHeartbeats 4000000 in
theorem clo73 (b : Nat) (len offs : Int) (x : SC) (w : World) (h0 : w.cell? ⟨b, 0, none⟩ = some (.int .i64 len)) (h1 : w.cell? ⟨b, 1, none⟩ = some (.int .i64 offs)) :
    Calls Try.prog 73 (#[vS x] ++ #[.pointer (some ⟨b, 0, none⟩)]) w fun e w' => e = .returned (.bool (badC len offs x)) ∧ Gr w w' := by
  obtain ⟨x0, x1, x2, x3, x4⟩ := x
  have hb := World.block_lt_of_cell? w _ h0
  unfold badC
  dsimp only [vS]
  have HA := cnode x2
  have HB := cnode x3
  generalize win x2 0 31 = qa at *
  generalize win x3 0 31 = qb at *
  cases qa
  · go_enter Try.func73, Try.ntmps73
    go_wp2_with (first | (go_at_call 43; (with_reducible refine (HA _).mono ?_); rintro e w' ⟨rfl, rfl⟩) | (go_at_call 43; (with_reducible refine (HB _).mono ?_); rintro e w' ⟨rfl, rfl⟩))
    all_goals
      go_ret
      exact ⟨ret_bool (by first | (simp_all; done) | (rw [Bool.eq_iff_iff]; simp_all; done) | (rw [Bool.eq_iff_iff]; simp; omega)), (by repeat (first | exact Gr.refl _ | with_reducible apply Gr.alloc | with_reducible apply Gr.grow | with_reducible apply Gr.drewN | with_reducible apply Gr.drew))⟩
  · cases qb
    all_goals
      go_enter Try.func73, Try.ntmps73
      go_wp2_with (first | (go_at_call 43; (with_reducible refine (HA _).mono ?_); rintro e w' ⟨rfl, rfl⟩) | (go_at_call 43; (with_reducible refine (HB _).mono ?_); rintro e w' ⟨rfl, rfl⟩))
      all_goals
        go_ret
        exact ⟨ret_bool (by first | (simp_all; done) | (rw [Bool.eq_iff_iff]; simp_all; done) | (rw [Bool.eq_iff_iff]; simp; omega)), (by repeat (first | exact Gr.refl _ | with_reducible apply Gr.alloc | with_reducible apply Gr.grow | with_reducible apply Gr.drewN | with_reducible apply Gr.drew))⟩
end Go.Proofs.Ytcknakbjiklklaa.F
