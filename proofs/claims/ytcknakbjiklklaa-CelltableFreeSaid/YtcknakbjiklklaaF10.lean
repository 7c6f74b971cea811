import Derived.Test.YtcknakbjiklklaaF2
import Derived.Test.YtcknakbjiklklaaS5
/- Masks that are read; masked; used. -/
namespace Go.Proofs.Ytcknakbjiklklaa.F
open Go.RowKit Go.Sort Go.Proofs.Ytcknakbjiklklaa.B Go.Proofs.Ytcknakbjiklklaa.S
set_option linter.unusedVariables false
set_option linter.unusedSimpArgs false
/-- A list of numbers that is read. -/
def RdI (w : World) (A : Option Addr) (l : List Int) : Prop :=
  l.length ≤ 9223372036854775807 ∧ (0 < l.length → ∃ b off, A = some ⟨b, off, none⟩ ∧ b < w.heap.size ∧ ∀ j, j < l.length → w.cell? ⟨b, off + j, none⟩ = some (.int .i64 (nth l j)))
theorem RdI.bl {w W : World} {A : Option Addr} {l : List Int} (h : RdI w A l) (hg : Bl w W) : RdI W A l := by
  refine ⟨h.1, fun hl => ?_⟩
  obtain ⟨b, off, e, hb, hc⟩ := h.2 hl
  exact ⟨b, off, e, Nat.lt_of_lt_of_le hb hg.size, fun j hj => (Below.cell hg (p := ⟨b, off + j, none⟩) hb).trans (hc j hj)⟩
theorem RdI.gr {w W : World} {A : Option Addr} {l : List Int} (h : RdI w A l) (hg : Gr w W) : RdI W A l := h.bl hg.bl
set_option maxHeartbeats 2000000 in
theorem clo79 (n : Int) (w : World) : Calls Try.prog 79 #[.int .i64 n] w fun e w' => e = .returned (.bool (badM n)) ∧ Gr w w' := by
  unfold badM
  go_enter Try.func79, Try.ntmps79
  go_wp2
  all_goals
    go_ret
    exact ⟨ret_bool (by simp_all), (by repeat (first | exact Gr.refl _ | with_reducible apply Gr.alloc | with_reducible apply Gr.grow | with_reducible apply Gr.drewN | with_reducible apply Gr.drew))⟩
set_option maxHeartbeats 2000000 in
theorem findexf (g : FuncId) (lb : Array Value) (eg : ∀ args W, (callFunc g args).run Try.prog W = .ok (.enter g args) W) (p : Int → Bool) (A : Option Addr) (c : Nat) (l : List Int) (w : World) (hr : RdI w A l) (hc : l.length ≤ c)
    (hp : ∀ x W, Gr w W → Calls Try.prog g (#[.int .i64 x] ++ lb) W fun e w' => e = .returned (.bool (p x)) ∧ Gr W w') :
    Calls Try.prog 83 #[.slice A l.length c, .func (.func g) #[] lb] w fun e w' => e = .returned (.int .i64 (idxF p l 0)) ∧ Gr w w' := by
  have hl := hr.1
  have HR := Hd.mk hr
  have HP := Hd.mk hp
  clear hr hp
  generalize hres : idxF p l 0 = res
  have HRes := Hd.mk hres
  clear hres
  go_enter Try.func83, Try.ntmps83
  go_wp2
  go_loopg [5, 8] l.length (fun gg s5 s8 wr => ∃ k : Nat, k ≤ l.length ∧ l.length - k ≤ gg ∧ s8 = .int .i64 k ∧ Hd (Gr w wr) ∧ Hd (res = idxF p (l.drop k) k))
  case atStart => exact ⟨0, Nat.zero_le _, by omega, rfl, ⟨Gr.refl w⟩, ⟨HRes.out.symm⟩⟩
  case round =>
    obtain ⟨k, hk, hg, rfl, GW, CF⟩ := hrel
    by_cases hlt : k < l.length
    · obtain ⟨b, off, rfl, hb, hcell⟩ := HR.out.2 (by omega)
      obtain ⟨n, os, rfl⟩ := GW.out.out
      have k0 := hcell k hlt
      have hltz : (k : Int) < (l.length : Int) := by omega
      have hyes := idxF_yes (p := p) hlt
      have hno := idxF_no (p := p) hlt
      have hcall := HP.out (nth l k)
      clear hcell
      generalize hx : nth l k = x at *
      clear hx
      have HYes := Hd.mk hyes
      have HNo := Hd.mk hno
      clear hyes hno
      generalize hq : p x = q at *
      have HQ := Hd.mk hq
      clear hq
      cases q with
      | true =>
        go_wp2_with (go_at_fn g; (with_reducible refine (hcall _ GW.out).mono ?_); rintro e w' ⟨rfl, hg⟩; obtain ⟨n, os, rfl⟩ := hg.out; clear hg)
        go_ret
        exact ⟨ret_i (by rw [CF.out, HYes.out (by simp)]), (by repeat (first | exact Gr.refl _ | with_reducible apply Gr.alloc | with_reducible apply Gr.grow | with_reducible apply Gr.drewN | with_reducible apply Gr.drew))⟩
      | false =>
        go_wp2_with (go_at_fn g; (with_reducible refine (hcall _ GW.out).mono ?_); rintro e w' ⟨rfl, hg⟩; obtain ⟨n, os, rfl⟩ := hg.out; clear hg)
        go_roundg (l.length - (k + 1))
        case measure => omega
        case rel => exact ⟨k + 1, by omega, by omega, by go_num, ⟨(by repeat (first | exact Gr.refl _ | with_reducible apply Gr.alloc | with_reducible apply Gr.grow | with_reducible apply Gr.drewN | with_reducible apply Gr.drew))⟩, ⟨by rw [CF.out, HNo.out (by simp)]⟩⟩
    · obtain rfl : k = l.length := by omega
      have hltz : ¬ ((l.length : Int) < (l.length : Int)) := by omega
      obtain ⟨n, os, rfl⟩ := GW.out.out
      go_wp2
      go_ret
      exact ⟨ret_i (by rw [CF.out, idxF_end]), (by repeat (first | exact Gr.refl _ | with_reducible apply Gr.alloc | with_reducible apply Gr.grow | with_reducible apply Gr.drewN | with_reducible apply Gr.drew))⟩
theorem eq79 : ∀ args W, (callFunc 79 args).run Try.prog W = .ok (.enter 79 args) W := enters_of Try.func79 (by kernel_rfl) rfl
theorem fhasf (A : Option Addr) (c : Nat) (l : List Int) (w : World) (hr : RdI w A l) (hc : l.length ≤ c) :
    Calls Try.prog 78 #[.slice A l.length c, .func (.func 79) #[] #[]] w fun e w' => e = .returned (.bool (hasF badM l)) ∧ Gr w w' := by
  have hI := findexf 79 #[] eq79 badM A c l w hr hc (fun x W _ => clo79 x W)
  unfold hasF
  generalize idxF badM l 0 = i at *
  clear hr
  go_enter Try.func78, Try.ntmps78
  go_wp2_with (first | (go_at_call 83; (with_reducible refine hI.mono ?_); rintro e w' ⟨rfl, hg⟩; obtain ⟨n, os, rfl⟩ := hg.out; clear hg))
  go_ret
  exact ⟨ret_bool rfl, (by repeat (first | exact Gr.refl _ | with_reducible apply Gr.alloc | with_reducible apply Gr.grow | with_reducible apply Gr.drewN | with_reducible apply Gr.drew))⟩
theorem fmasked (A : Option Addr) (c : Nat) (f : List Int) (len : Int) (w : World) (hr : RdI w A f) (hc : f.length ≤ c) :
    Calls Try.prog 64 #[.slice A f.length c, .int .i64 len] w fun e w' => e = .returned (.bool (maskedS f len)) ∧ Gr w w' := by
  have hH := fun W h => fhasf A c f W (RdI.gr hr h) hc
  unfold maskedS
  rw [← hasF_any]
  generalize hasF badM f = q at *
  by_cases h : (f.length : Int) = len
  · have hb : ((f.length : Int) == len) = true := by simp [h]
    have hd : decide ((f.length : Int) = len) = true := decide_eq_true h
    rw [hd]
    clear h hr hd
    go_enter Try.func64, Try.ntmps64
    go_wp2_with (first | (go_at_call 78; (with_reducible refine (hH _ (by repeat (first | exact Gr.refl _ | with_reducible apply Gr.alloc | with_reducible apply Gr.grow | with_reducible apply Gr.drewN | with_reducible apply Gr.drew))).mono ?_); rintro e w' ⟨rfl, hg⟩; obtain ⟨n, os, rfl⟩ := hg.out; clear hg))
    go_ret
    exact ⟨ret_bool (by simp), (by repeat (first | exact Gr.refl _ | with_reducible apply Gr.alloc | with_reducible apply Gr.grow | with_reducible apply Gr.drewN | with_reducible apply Gr.drew))⟩
  · have hb : ((f.length : Int) == len) = false := by simp [h]
    have hd : decide ((f.length : Int) = len) = false := decide_eq_false h
    rw [hd]
    clear h hr hd
    go_enter Try.func64, Try.ntmps64
    go_wp2_with (first | (go_at_call 78; (with_reducible refine (hH _ (by repeat (first | exact Gr.refl _ | with_reducible apply Gr.alloc | with_reducible apply Gr.grow | with_reducible apply Gr.drewN | with_reducible apply Gr.drew))).mono ?_); rintro e w' ⟨rfl, hg⟩; obtain ⟨n, os, rfl⟩ := hg.out; clear hg))
    go_ret
    exact ⟨ret_bool (by simp), (by repeat (first | exact Gr.refl _ | with_reducible apply Gr.alloc | with_reducible apply Gr.grow | with_reducible apply Gr.drewN | with_reducible apply Gr.drew))⟩
set_option maxHeartbeats 2000000 in
theorem tindexf (g : FuncId) (lb : Array Value) (eg : ∀ args W, (callFunc g args).run Try.prog W = .ok (.enter g args) W) (p : TC → Bool) (A : Option Addr) (c : Nat) (l : List TC) (w : World) (hr : Rd w A l) (hc : l.length ≤ c)
    (hp : ∀ x W, Gr w W → Calls Try.prog g (#[vT x] ++ lb) W fun e w' => e = .returned (.bool (p x)) ∧ Gr W w') :
    Calls Try.prog 77 #[.slice A l.length c, .func (.func g) #[] lb] w fun e w' => e = .returned (.int .i64 (idxF p l 0)) ∧ Gr w w' := by
  have hl := hr.1
  have HR := Hd.mk hr
  have HP := Hd.mk hp
  clear hr hp
  generalize hres : idxF p l 0 = res
  have HRes := Hd.mk hres
  clear hres
  go_enter Try.func77, Try.ntmps77
  go_wp2
  go_loopg [5, 8] l.length (fun gg s5 s8 wr => ∃ k : Nat, k ≤ l.length ∧ l.length - k ≤ gg ∧ s8 = .int .i64 k ∧ Hd (Gr w wr) ∧ Hd (res = idxF p (l.drop k) k))
  case atStart => exact ⟨0, Nat.zero_le _, by omega, rfl, ⟨Gr.refl w⟩, ⟨HRes.out.symm⟩⟩
  case round =>
    obtain ⟨k, hk, hg, rfl, GW, CF⟩ := hrel
    by_cases hlt : k < l.length
    · obtain ⟨b, off, rfl, hb, hcell⟩ := HR.out.2 (by omega)
      obtain ⟨n, os, rfl⟩ := GW.out.out
      obtain ⟨k0, k1, k2, k3, k4, k5⟩ := hcell k hlt
      have hltz : (k : Int) < (l.length : Int) := by omega
      have hyes := idxF_yes (p := p) hlt
      have hno := idxF_no (p := p) hlt
      have hcall := HP.out (nth l k)
      generalize hx : nth l k = x at *
      obtain ⟨x0, x1, x2, x3, x4, x5⟩ := x
      simp only [vT] at *
      clear hx
      have HYes := Hd.mk hyes
      have HNo := Hd.mk hno
      clear hyes hno
      generalize hq : p ⟨x0, x1, x2, x3, x4, x5⟩ = q at *
      have HQ := Hd.mk hq
      clear hq
      cases q with
      | true =>
        go_wp2_with (go_at_fn g; (with_reducible refine (hcall _ GW.out).mono ?_); rintro e w' ⟨rfl, hg⟩; obtain ⟨n, os, rfl⟩ := hg.out; clear hg)
        go_ret
        exact ⟨ret_i (by rw [CF.out, HYes.out (by simp)]), (by repeat (first | exact Gr.refl _ | with_reducible apply Gr.alloc | with_reducible apply Gr.grow | with_reducible apply Gr.drewN | with_reducible apply Gr.drew))⟩
      | false =>
        go_wp2_with (go_at_fn g; (with_reducible refine (hcall _ GW.out).mono ?_); rintro e w' ⟨rfl, hg⟩; obtain ⟨n, os, rfl⟩ := hg.out; clear hg)
        go_roundg (l.length - (k + 1))
        case measure => omega
        case rel => exact ⟨k + 1, by omega, by omega, by go_num, ⟨(by repeat (first | exact Gr.refl _ | with_reducible apply Gr.alloc | with_reducible apply Gr.grow | with_reducible apply Gr.drewN | with_reducible apply Gr.drew))⟩, ⟨by rw [CF.out, HNo.out (by simp)]⟩⟩
    · obtain rfl : k = l.length := by omega
      have hltz : ¬ ((l.length : Int) < (l.length : Int)) := by omega
      obtain ⟨n, os, rfl⟩ := GW.out.out
      go_wp2
      go_ret
      exact ⟨ret_i (by rw [CF.out, idxF_end]), (by repeat (first | exact Gr.refl _ | with_reducible apply Gr.alloc | with_reducible apply Gr.grow | with_reducible apply Gr.drewN | with_reducible apply Gr.drew))⟩
theorem eq81 : ∀ args W, (callFunc 81 args).run Try.prog W = .ok (.enter 81 args) W := enters_of Try.func81 (by kernel_rfl) rfl
theorem clo81 (b : Nat) (t : Int) (x : TC) (w : World) (hc : w.cell? ⟨b, 0, none⟩ = some (.int .i64 t)) : Calls Try.prog 81 (#[vT x] ++ #[.pointer (some ⟨b, 0, none⟩)]) w fun e w' => e = .returned (.bool (x.sl == t)) ∧ Gr w w' := by
  obtain ⟨x0, x1, x2, x3, x4, x5⟩ := x
  have hb := World.block_lt_of_cell? w _ hc
  simp only [vT]
  go_enter Try.func81, Try.ntmps81
  go_wp2
  go_ret
  exact ⟨rfl, (by repeat (first | exact Gr.refl _ | with_reducible apply Gr.alloc | with_reducible apply Gr.grow | with_reducible apply Gr.drewN | with_reducible apply Gr.drew))⟩
theorem thasu (A : Option Addr) (c : Nat) (l : List TC) (t : Int) (b : Nat) (w : World) (hr : Rd w A l) (hc : l.length ≤ c) (hn : w.cell? ⟨b, 0, none⟩ = some (.int .i64 t)) :
    Calls Try.prog 80 #[.slice A l.length c, .func (.func 81) #[] #[.pointer (some ⟨b, 0, none⟩)]] w fun e w' => e = .returned (.bool (usedS l t)) ∧ Gr w w' := by
  have zn := World.block_lt_of_cell? w _ hn
  have hI := tindexf 81 #[.pointer (some ⟨b, 0, none⟩)] eq81 (fun x => x.sl == t) A c l w hr hc (fun x Y hY => clo81 b t x Y ((hY.below.cell (p := ⟨b, 0, none⟩) zn).trans hn))
  unfold usedS
  rw [← hasF_any]
  unfold hasF
  generalize idxF (fun x : TC => x.sl == t) l 0 = i at *
  clear hr
  go_enter Try.func80, Try.ntmps80
  go_wp2_with (first | (go_at_call 77; (with_reducible refine hI.mono ?_); rintro e w' ⟨rfl, hg⟩; obtain ⟨n, os, rfl⟩ := hg.out; clear hg))
  go_ret
  exact ⟨ret_bool rfl, (by repeat (first | exact Gr.refl _ | with_reducible apply Gr.alloc | with_reducible apply Gr.grow | with_reducible apply Gr.drewN | with_reducible apply Gr.drew))⟩
set_option maxHeartbeats 2000000 in
theorem tused (n len : Int) (A : Option Addr) (c : Nat) (l : List TC) (t : Int) (w : World) (hr : Rd w A l) (hc : l.length ≤ c) :
    Calls Try.prog 65 #[.agg #[.int .i64 n, .int .i64 len, .slice A l.length c], .int .i64 t] w fun e w' => e = .returned (.bool (usedS l t)) ∧ Gr w w' := by
  have hH := fun W (h : Gr w W) (hn : W.cell? ⟨w.heap.size + 1, 0, none⟩ = some (.int .i64 t)) => thasu A c l t (w.heap.size + 1) W (hr.gr h) hc hn
  generalize usedS l t = q at *
  clear hr
  go_enter Try.func65, Try.ntmps65
  go_wp2_with (first | (go_at_call 80; (refine (hH _ (by repeat (first | exact Gr.refl _ | with_reducible apply Gr.alloc | with_reducible apply Gr.grow | with_reducible apply Gr.drewN | with_reducible apply Gr.drew)) ?c0).mono ?_); (case c0 => go_simp); rintro e w' ⟨rfl, hg⟩; obtain ⟨n, os, rfl⟩ := hg.out; clear hg))
  go_ret
  exact ⟨ret_bool rfl, (by repeat (first | exact Gr.refl _ | with_reducible apply Gr.alloc | with_reducible apply Gr.grow | with_reducible apply Gr.drewN | with_reducible apply Gr.drew))⟩
end Go.Proofs.Ytcknakbjiklklaa.F
