import Derived.Test.YtlifpafnkagofaaF19
/- slices.IndexFunc and slices.ContainsFunc, whatever the closure; the closures. -/
namespace Go.Proofs.Ytlifpafnkagofaa.F
open Go.RowKit Go.Sort Go.Proofs.Ytlifpafnkagofaa.B Go.Proofs.Ytlifpafnkagofaa.S
set_option linter.unusedVariables false
set_option linter.unusedSimpArgs false
set_option maxHeartbeats 2000000 in
theorem pindexf (g : FuncId) (lb : Array Value) (eg : ∀ args W, (callFunc g args).run Try.prog W = .ok (.enter g args) W) (p : Nb → Bool) (A : Option Addr) (c : Nat) (l : List Nb) (w : World) (hr : Rd w A l) (hc : l.length ≤ c)
    (hp : ∀ x W, Gr w W → Calls Try.prog g (#[nbV x] ++ lb) W fun e w' => e = .returned (.bool (p x)) ∧ Gr W w') :
    Calls Try.prog 21 #[.slice A l.length c, .func (.func g) #[] lb] w fun e w' => e = .returned (.int .i64 (idxF p l 0)) ∧ Gr w w' := by
  have hl := hr.1
  have HR := Hd.mk hr
  have HP := Hd.mk hp
  clear hr hp
  generalize hres : idxF p l 0 = res
  have HRes := Hd.mk hres
  clear hres
  go_enter Try.func21, Try.ntmps21
  go_wp2
  go_loopg [5, 8] l.length (fun gg s5 s8 wr => ∃ k : Nat, k ≤ l.length ∧ l.length - k ≤ gg ∧ s8 = .int .i64 k ∧ Hd (Gr w wr) ∧ Hd (res = idxF p (l.drop k) k))
  case atStart => exact ⟨0, Nat.zero_le _, by omega, rfl, ⟨Gr.refl w⟩, ⟨HRes.out.symm⟩⟩
  case round =>
    obtain ⟨k, hk, hg, rfl, GW, CF⟩ := hrel
    by_cases hlt : k < l.length
    · obtain ⟨b, off, rfl, hb, hcell⟩ := HR.out.2 (by omega)
      obtain ⟨n, os, rfl⟩ := GW.out.out
      obtain ⟨k0, k1, k2, k3, k4, k5⟩ := hcell k hlt
      have hltz : (k : Int) < (l.length : Int) := by omega
      have hyes := idxF_yes (p := p) hlt
      have hno := idxF_no (p := p) hlt
      have hcall := HP.out (nth l k)
      generalize hx : nth l k = x at *
      obtain ⟨x0, x1, x2, x3, ⟨x4, x5⟩⟩ := x
      simp only [nbV] at *
      clear hx
      have HYes := Hd.mk hyes
      have HNo := Hd.mk hno
      clear hyes hno
      generalize hq : p ⟨x0, x1, x2, x3, ⟨x4, x5⟩⟩ = q at *
      have HQ := Hd.mk hq
      clear hq
      cases q with
      | true =>
        go_wp2_with (go_at_fn g; (with_reducible refine (hcall _ GW.out).mono ?_); rintro e w' ⟨rfl, hg⟩; obtain ⟨n, os, rfl⟩ := hg.out; clear hg)
        go_ret
        exact ⟨ret_i (by rw [CF.out, HYes.out (by simp)]), (by repeat (first | exact Gr.refl _ | with_reducible apply Gr.alloc | with_reducible apply Gr.grow | with_reducible apply Gr.drewN | with_reducible apply Gr.drew))⟩
      | false =>
        go_wp2_with (go_at_fn g; (with_reducible refine (hcall _ GW.out).mono ?_); rintro e w' ⟨rfl, hg⟩; obtain ⟨n, os, rfl⟩ := hg.out; clear hg)
        go_roundg (l.length - (k + 1))
        case measure => omega
        case rel => exact ⟨k + 1, by omega, by omega, by go_num, ⟨(by repeat (first | exact Gr.refl _ | with_reducible apply Gr.alloc | with_reducible apply Gr.grow | with_reducible apply Gr.drewN | with_reducible apply Gr.drew))⟩, ⟨by rw [CF.out, HNo.out (by simp)]⟩⟩
    · obtain rfl : k = l.length := by omega
      have hltz : ¬ ((l.length : Int) < (l.length : Int)) := by omega
      obtain ⟨n, os, rfl⟩ := GW.out.out
      go_wp2
      go_ret
      exact ⟨ret_i (by rw [CF.out, idxF_end]), (by repeat (first | exact Gr.refl _ | with_reducible apply Gr.alloc | with_reducible apply Gr.grow | with_reducible apply Gr.drewN | with_reducible apply Gr.drew))⟩
theorem eq22 : ∀ args W, (callFunc 22 args).run Try.prog W = .ok (.enter 22 args) W := enters_of Try.func22 (by kernel_rfl) rfl
theorem eq30 : ∀ args W, (callFunc 30 args).run Try.prog W = .ok (.enter 30 args) W := enters_of Try.func30 (by kernel_rfl) rfl
theorem eq32 : ∀ args W, (callFunc 32 args).run Try.prog W = .ok (.enter 32 args) W := enters_of Try.func32 (by kernel_rfl) rfl
theorem eq34 : ∀ args W, (callFunc 34 args).run Try.prog W = .ok (.enter 34 args) W := enters_of Try.func34 (by kernel_rfl) rfl
theorem eq62 : ∀ args W, (callFunc 62 args).run Try.prog W = .ok (.enter 62 args) W := enters_of Try.func62 (by kernel_rfl) rfl
/-- The predicate 'has this number', its number in a captured cell. -/
def isN (t : Int) (x : Nb) : Bool := x.nd == t
theorem clo22 (b : Nat) (t : Int) (x : Nb) (w : World) (hc : w.cell? ⟨b, 2, none⟩ = some (.int .i64 t)) : Calls Try.prog 22 (#[nbV x] ++ #[.pointer (some ⟨b, 0, none⟩)]) w fun e w' => e = .returned (.bool (isN t x)) ∧ Gr w w' := by
  obtain ⟨x0, x1, x2, x3, ⟨x4, x5⟩⟩ := x
  have hb := World.block_lt_of_cell? w _ hc
  unfold isN
  simp only [nbV]
  go_enter Try.func22, Try.ntmps22
  go_wp2
  go_ret
  exact ⟨rfl, (by repeat (first | exact Gr.refl _ | with_reducible apply Gr.alloc | with_reducible apply Gr.grow | with_reducible apply Gr.drewN | with_reducible apply Gr.drew))⟩
theorem clo30 (b : Nat) (t : Int) (x : Nb) (w : World) (hc : w.cell? ⟨b, 0, none⟩ = some (.int .i64 t)) : Calls Try.prog 30 (#[nbV x] ++ #[.pointer (some ⟨b, 0, none⟩)]) w fun e w' => e = .returned (.bool (isN t x)) ∧ Gr w w' := by
  obtain ⟨x0, x1, x2, x3, ⟨x4, x5⟩⟩ := x
  have hb := World.block_lt_of_cell? w _ hc
  unfold isN
  simp only [nbV]
  go_enter Try.func30, Try.ntmps30
  go_wp2
  go_ret
  exact ⟨rfl, (by repeat (first | exact Gr.refl _ | with_reducible apply Gr.alloc | with_reducible apply Gr.grow | with_reducible apply Gr.drewN | with_reducible apply Gr.drew))⟩
theorem clo32 (b : Nat) (t : Int) (x : Nb) (w : World) (hc : w.cell? ⟨b, 0, none⟩ = some (.int .i64 t)) : Calls Try.prog 32 (#[nbV x] ++ #[.pointer (some ⟨b, 0, none⟩)]) w fun e w' => e = .returned (.bool (isN t x)) ∧ Gr w w' := by
  obtain ⟨x0, x1, x2, x3, ⟨x4, x5⟩⟩ := x
  have hb := World.block_lt_of_cell? w _ hc
  unfold isN
  simp only [nbV]
  go_enter Try.func32, Try.ntmps32
  go_wp2
  go_ret
  exact ⟨rfl, (by repeat (first | exact Gr.refl _ | with_reducible apply Gr.alloc | with_reducible apply Gr.grow | with_reducible apply Gr.drewN | with_reducible apply Gr.drew))⟩
theorem clo34 (b : Nat) (t : Int) (x : Nb) (w : World) (hc : w.cell? ⟨b, 0, none⟩ = some (.int .i64 t)) : Calls Try.prog 34 (#[nbV x] ++ #[.pointer (some ⟨b, 0, none⟩)]) w fun e w' => e = .returned (.bool (isN t x)) ∧ Gr w w' := by
  obtain ⟨x0, x1, x2, x3, ⟨x4, x5⟩⟩ := x
  have hb := World.block_lt_of_cell? w _ hc
  unfold isN
  simp only [nbV]
  go_enter Try.func34, Try.ntmps34
  go_wp2
  go_ret
  exact ⟨rfl, (by repeat (first | exact Gr.refl _ | with_reducible apply Gr.alloc | with_reducible apply Gr.grow | with_reducible apply Gr.drewN | with_reducible apply Gr.drew))⟩
end Go.Proofs.Ytlifpafnkagofaa.F
