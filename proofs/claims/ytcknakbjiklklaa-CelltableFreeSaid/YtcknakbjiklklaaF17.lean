import Derived.Test.YtcknakbjiklklaaF16
import Derived.Test.YtcknakbjiklklaaF14
import Derived.Test.YtcknakbjiklklaaF12
import Derived.Test.YtcknakbjiklklaaF9
import Derived.Test.YtcknakbjiklklaaE0
/- slices.Equal of numbers and of places. -/
namespace Go.Proofs.Ytcknakbjiklklaa.F
open Go.RowKit Go.Sort Go.Proofs.Ytcknakbjiklklaa.B Go.Proofs.Ytcknakbjiklklaa.S
set_option linter.unusedVariables false
set_option linter.unusedSimpArgs false
theorem ext_nth {α : Type} [Inhabited α] {a b : List α} (hl : a.length = b.length) (h : ∀ k, k < a.length → nth a k = nth b k) : a = b := by
  apply List.ext_getElem hl
  intro i h1 h2
  have := h i h1
  rwa [nth_eq a i h1, nth_eq b i h2] at this
set_option maxHeartbeats 4000000 in
theorem feq (A B : Option Addr) (c d : Nat) (a b : List Int) (w : World) (ha : RdI w A a) (hb : RdI w B b) (hc : a.length ≤ c) (hd : b.length ≤ d) :
    Calls Try.prog 21 #[.slice A a.length c, .slice B b.length d] w fun e w' => e = .returned (.bool (decide (a = b))) ∧ Gr w w' := by
  have hla := ha.1
  have hlb := hb.1
  have HA := Hd.mk ha
  have HB := Hd.mk hb
  clear ha hb
  have hm := mixed
  by_cases hl : a.length = b.length
  · have hlz : ((a.length : Int) == (b.length : Int)) = true := by simp; omega
    have hlz2 : ((a.length : Int) != (b.length : Int)) = false := by simp; omega
    have hl1 : a.length ≤ b.length := by omega
    have HL := Hd.mk hl
    clear hl
    go_enter Try.func21, Try.ntmps21
    go_wp2
    go_loopg [5, 13] a.length (fun gg s5 s13 wr => ∃ k : Nat, k ≤ a.length ∧ a.length - k ≤ gg ∧ s13 = .int .i64 k ∧ Hd (Gr w wr) ∧ Hd (∀ j, j < k → nth a j = nth b j))
    case atStart => exact ⟨0, Nat.zero_le _, by omega, rfl, ⟨Gr.refl w⟩, ⟨fun j hj => absurd hj (Nat.not_lt_zero _)⟩⟩
    case round =>
      obtain ⟨k, hk, hg, rfl, GW, CF⟩ := hrel
      by_cases hlt : k < a.length
      · obtain ⟨ba, oa, rfl, hba, hca⟩ := HA.out.2 (by omega)
        obtain ⟨bb, ob, rfl, hbb, hcb⟩ := HB.out.2 (by omega)
        have o := fun (q : Nat) => GW.out.below.cell (p := ⟨ba, q, none⟩) hba
        have o2 := fun (q : Nat) => GW.out.below.cell (p := ⟨bb, q, none⟩) hbb
        have k0 := (o _).trans (hca k hlt)
        have m0 := (o2 _).trans (hcb k (by omega))
        have z1 : ba < wr.heap.size := World.block_lt_of_cell? wr _ k0
        have z2 : bb < wr.heap.size := World.block_lt_of_cell? wr _ m0
        have hltz : (k : Int) < (a.length : Int) := by omega
        have hltz2 : (k : Int) < (b.length : Int) := by omega
        have hkz : (0 : Int) ≤ (k : Int) := by omega
        clear o o2 hca hcb
        generalize hx : nth a k = x at *
        generalize hy : nth b k = y at *
        have HX := Hd.mk hx
        have HY := Hd.mk hy
        clear hx hy
        by_cases hxy : x = y
        · have hq : (x != y) = false := by simp [hxy]
          have HQ := Hd.mk hxy
          clear hxy
          go_wp2
          go_quiet (fail)
          go_wp2
          go_roundg (a.length - (k + 1))
          case measure => omega
          case rel =>
            refine ⟨k + 1, by omega, by omega, by go_num, ⟨GW.out.trans (by repeat (first | exact Gr.refl _ | with_reducible apply Gr.alloc | with_reducible apply Gr.grow | with_reducible apply Gr.drewN | with_reducible apply Gr.drew))⟩, ⟨fun j hj => ?_⟩⟩
            rcases Nat.lt_or_ge j k with e | e
            · exact CF.out j e
            · obtain rfl : j = k := by omega
              rw [HX.out, HY.out, HQ.out]
        · have hq : (x != y) = true := by simp [hxy]
          have HQ := Hd.mk hxy
          clear hxy
          go_wp2
          go_quiet (fail)
          go_wp2
          go_ret
          refine ⟨ret_bool ?_, GW.out.trans (by repeat (first | exact Gr.refl _ | with_reducible apply Gr.alloc | with_reducible apply Gr.grow | with_reducible apply Gr.drewN | with_reducible apply Gr.drew))⟩
          rw [eq_comm, decide_eq_false_iff_not]
          intro e
          have : nth a k = nth b k := by rw [e]
          rw [HX.out, HY.out] at this
          exact HQ.out this
      · obtain rfl : k = a.length := by omega
        have hltz : ¬ ((a.length : Int) < (a.length : Int)) := by omega
        go_wp2
        go_ret
        refine ⟨ret_bool ?_, GW.out.trans (by repeat (first | exact Gr.refl _ | with_reducible apply Gr.alloc | with_reducible apply Gr.grow | with_reducible apply Gr.drewN | with_reducible apply Gr.drew))⟩
        rw [eq_comm, decide_eq_true_eq]
        exact ext_nth HL.out CF.out
  · have hlz : ((a.length : Int) == (b.length : Int)) = false := by simp; omega
    have hlz2 : ((a.length : Int) != (b.length : Int)) = true := by simp; omega
    go_enter Try.func21, Try.ntmps21
    go_wp2
    go_ret
    refine ⟨ret_bool ?_, (by repeat (first | exact Gr.refl _ | with_reducible apply Gr.alloc | with_reducible apply Gr.grow | with_reducible apply Gr.drewN | with_reducible apply Gr.drew))⟩
    rw [eq_comm, decide_eq_false_iff_not]
    exact fun e => hl (by rw [e])
set_option maxHeartbeats 4000000 in
theorem peq (A B : Option Addr) (c d : Nat) (a b : List Sp) (w : World) (ha : RdP w A a) (hb : RdP w B b) (hc : a.length ≤ c) (hd : b.length ≤ d) :
    Calls Try.prog 32 #[.slice A a.length c, .slice B b.length d] w fun e w' => e = .returned (.bool (decide (a = b))) ∧ Gr w w' := by
  have hla := ha.1
  have hlb := hb.1
  have HA := Hd.mk ha
  have HB := Hd.mk hb
  clear ha hb
  have hm := mixed
  have hg55 := guard55
  by_cases hl : a.length = b.length
  · have hlz : ((a.length : Int) == (b.length : Int)) = true := by simp; omega
    have hlz2 : ((a.length : Int) != (b.length : Int)) = false := by simp; omega
    have hl1 : a.length ≤ b.length := by omega
    have HL := Hd.mk hl
    clear hl
    go_enter Try.func32, Try.ntmps32
    go_wp2
    go_loopg [5, 13] a.length (fun gg s5 s13 wr => ∃ k : Nat, k ≤ a.length ∧ a.length - k ≤ gg ∧ s13 = .int .i64 k ∧ Hd (Gr w wr) ∧ Hd (∀ j, j < k → nth a j = nth b j))
    case atStart => exact ⟨0, Nat.zero_le _, by omega, rfl, ⟨Gr.refl w⟩, ⟨fun j hj => absurd hj (Nat.not_lt_zero _)⟩⟩
    case round =>
      obtain ⟨k, hk, hg, rfl, GW, CF⟩ := hrel
      by_cases hlt : k < a.length
      · obtain ⟨ba, oa, rfl, hba, hca⟩ := HA.out.2 (by omega)
        obtain ⟨bb, ob, rfl, hbb, hcb⟩ := HB.out.2 (by omega)
        have o := fun (q : Nat) => GW.out.below.cell (p := ⟨ba, q, none⟩) hba
        have o2 := fun (q : Nat) => GW.out.below.cell (p := ⟨bb, q, none⟩) hbb
        obtain ⟨e0, e1⟩ := hca k hlt
        obtain ⟨g0, g1⟩ := hcb k (by omega)
        have k0 := (o _).trans e0
        have k1 := (o _).trans e1
        have m0 := (o2 _).trans g0
        have m1 := (o2 _).trans g1
        have z1 : ba < wr.heap.size := World.block_lt_of_cell? wr _ k0
        have z2 : bb < wr.heap.size := World.block_lt_of_cell? wr _ m0
        have hltz : (k : Int) < (a.length : Int) := by omega
        have hltz2 : (k : Int) < (b.length : Int) := by omega
        have hkz : (0 : Int) ≤ (k : Int) := by omega
        clear o o2 hca hcb e0 e1 g0 g1
        generalize hx : nth a k = x at *
        generalize hy : nth b k = y at *
        obtain ⟨x0, x1⟩ := x
        obtain ⟨y0, y1⟩ := y
        dsimp only at *
        have HX := Hd.mk hx
        have HY := Hd.mk hy
        clear hx hy
        have heq := fun W => eq55 W x0 y0 x1 y1
        have hiff : (x0 == y0 && x1 == y1) = true ↔ (⟨x0, x1⟩ : Sp) = ⟨y0, y1⟩ := by simp
        generalize (x0 == y0 && x1 == y1) = q at *
        have HI := Hd.mk hiff
        clear hiff
        cases q with
        | true =>
          go_wp2
          go_quiet (fail)
          go_wp2
          go_roundg (a.length - (k + 1))
          case measure => omega
          case rel =>
            refine ⟨k + 1, by omega, by omega, by go_num, ⟨GW.out.trans (by repeat (first | exact Gr.refl _ | with_reducible apply Gr.alloc | with_reducible apply Gr.grow | with_reducible apply Gr.drewN | with_reducible apply Gr.drew))⟩, ⟨fun j hj => ?_⟩⟩
            rcases Nat.lt_or_ge j k with e | e
            · exact CF.out j e
            · obtain rfl : j = k := by omega
              rw [HX.out, HY.out]
              exact HI.out.1 (by simp)
        | false =>
          go_wp2
          go_quiet (fail)
          go_wp2
          go_ret
          refine ⟨ret_bool ?_, GW.out.trans (by repeat (first | exact Gr.refl _ | with_reducible apply Gr.alloc | with_reducible apply Gr.grow | with_reducible apply Gr.drewN | with_reducible apply Gr.drew))⟩
          rw [eq_comm, decide_eq_false_iff_not]
          intro e
          have : nth a k = nth b k := by rw [e]
          rw [HX.out, HY.out] at this
          exact absurd (HI.out.2 this) (by simp)
      · obtain rfl : k = a.length := by omega
        have hltz : ¬ ((a.length : Int) < (a.length : Int)) := by omega
        go_wp2
        go_ret
        refine ⟨ret_bool ?_, GW.out.trans (by repeat (first | exact Gr.refl _ | with_reducible apply Gr.alloc | with_reducible apply Gr.grow | with_reducible apply Gr.drewN | with_reducible apply Gr.drew))⟩
        rw [eq_comm, decide_eq_true_eq]
        exact ext_nth HL.out CF.out
  · have hlz : ((a.length : Int) == (b.length : Int)) = false := by simp; omega
    have hlz2 : ((a.length : Int) != (b.length : Int)) = true := by simp; omega
    go_enter Try.func32, Try.ntmps32
    go_wp2
    go_ret
    refine ⟨ret_bool ?_, (by repeat (first | exact Gr.refl _ | with_reducible apply Gr.alloc | with_reducible apply Gr.grow | with_reducible apply Gr.drewN | with_reducible apply Gr.drew))⟩
    rw [eq_comm, decide_eq_false_iff_not]
    exact fun e => hl (by rw [e])
end Go.Proofs.Ytcknakbjiklklaa.F
