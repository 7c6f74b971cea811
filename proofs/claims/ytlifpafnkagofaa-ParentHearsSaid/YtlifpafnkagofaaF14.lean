import Derived.Test.YtlifpafnkagofaaF13
import Derived.Test.YtlifpafnkagofaaF10
import Derived.Test.YtlifpafnkagofaaS6
namespace Go.Proofs.Ytlifpafnkagofaa.F
open Go.RowKit Go.Sort Go.Proofs.Ytlifpafnkagofaa.B Go.Proofs.Ytlifpafnkagofaa.S
set_option linter.unusedVariables false
set_option linter.unusedSimpArgs false
theorem ret_ib {r : Int × Bool} {a : Int} {b : Bool} (h : r = (a, b)) : Ending.returned (.tuple #[.int .i64 a, .bool b]) = .returned (.tuple #[.int .i64 r.1, .bool r.2]) := by rw [h]
set_option maxHeartbeats 4000000 in
theorem pBest (A : Option Addr) (c : Nat) (l : List Nb) (a0 a1 a2 a3 a4 a5 : Int) (w : World) (hr : Rd w A l) (hc : l.length ≤ c) :
    Calls Try.prog 13 #[.slice A l.length c, .agg #[.int .i64 a0, .int .i64 a1, .int .i64 a2, .int .i64 a3, .int .i64 a4, .int .i64 a5]] w fun e w' =>
      e = .returned (.tuple #[.int .i64 (bestP ⟨a0, a1, a2, a3, a4, a5⟩ l).1, .bool (bestP ⟨a0, a1, a2, a3, a4, a5⟩ l).2]) ∧ Bl w w' := by
  have HC : ∀ W, Gr w W → _ := fun W h => pcheck A c l W (hr.gr h) hc
  have HQ := rcheck a0 a1 a2 a3 a4 a5
  have HB : checkL l = 0 → ∀ W, Gr w W → _ := fun h1 W h => pbest A c l a0 a1 a2 a3 a4 a5 W (hr.gr h) hc (checkL_ok h1).1 (checkL_ok h1).2.1
  have hres : bestP ⟨a0, a1, a2, a3, a4, a5⟩ l = if checkL l = 0 ∧ checkR ⟨a0, a1, a2, a3, a4, a5⟩ = 0 then ((bestS ⟨a0, a1, a2, a3, a4, a5⟩ l).1.ix, (bestS ⟨a0, a1, a2, a3, a4, a5⟩ l).2) else (0, false) := rfl
  clear hr
  generalize bestP ⟨a0, a1, a2, a3, a4, a5⟩ l = res at *
  generalize checkR ⟨a0, a1, a2, a3, a4, a5⟩ = q2 at *
  generalize checkL l = q1 at *
  generalize bestS ⟨a0, a1, a2, a3, a4, a5⟩ l = bs at *
  obtain ⟨⟨⟨m0, m1, m2, m3, ⟨m4, m5⟩⟩, m6, m7⟩, mb⟩ := bs
  simp only [vL] at HB
  by_cases h1 : q1 = 0
  · replace HB := HB h1
    by_cases h2 : q2 = 0
    · rw [if_pos ⟨h1, h2⟩] at hres
      have HR := Hd.mk hres
      subst h1 h2
      clear hres
      go_enter Try.func13, Try.ntmps13
      go_wp2_with (first | (go_at_call 17; (with_reducible refine (HC _ (by repeat (first | exact Gr.refl _ | with_reducible apply Gr.alloc | with_reducible apply Gr.grow | with_reducible apply Gr.drewN | with_reducible apply Gr.drew))).mono ?_); rintro e w' ⟨rfl, hg⟩; obtain ⟨n, os, rfl⟩ := hg.out; clear hg) | (go_at_call 18; (with_reducible refine (HQ _).mono ?_); rintro e w' ⟨rfl, hg⟩; obtain ⟨n, os, rfl⟩ := hg.out; clear hg) | (go_at_call 39; (with_reducible refine (HB _ (by repeat (first | exact Gr.refl _ | with_reducible apply Gr.alloc | with_reducible apply Gr.grow | with_reducible apply Gr.drewN | with_reducible apply Gr.drew))).mono ?_); rintro e w' ⟨rfl, hg⟩; obtain ⟨n, os, rfl⟩ := hg.out; clear hg))
      refine ⟨rfl, _, by simp [results, Try.results13, go_sem]; (repeat' first | rfl | apply And.intro), ret_ib HR.out, (by repeat (first | exact Bl.refl _ | with_reducible apply Bl.alloc | with_reducible apply Bl.grow | with_reducible apply Bl.sd | with_reducible apply Bl.drewN | with_reducible apply Bl.drew))⟩
    · rw [if_neg (by simp [h2])] at hres
      have HR := Hd.mk hres
      subst h1
      clear hres HB
      go_enter Try.func13, Try.ntmps13
      go_wp2_with (first | (go_at_call 17; (with_reducible refine (HC _ (by repeat (first | exact Gr.refl _ | with_reducible apply Gr.alloc | with_reducible apply Gr.grow | with_reducible apply Gr.drewN | with_reducible apply Gr.drew))).mono ?_); rintro e w' ⟨rfl, hg⟩; obtain ⟨n, os, rfl⟩ := hg.out; clear hg) | (go_at_call 18; (with_reducible refine (HQ _).mono ?_); rintro e w' ⟨rfl, hg⟩; obtain ⟨n, os, rfl⟩ := hg.out; clear hg))
      refine ⟨rfl, _, by simp [results, Try.results13, go_sem]; (repeat' first | rfl | apply And.intro), ret_ib HR.out, (by repeat (first | exact Bl.refl _ | with_reducible apply Bl.alloc | with_reducible apply Bl.grow | with_reducible apply Bl.sd | with_reducible apply Bl.drewN | with_reducible apply Bl.drew))⟩
  · rw [if_neg (by simp [h1])] at hres
    have HR := Hd.mk hres
    clear hres HB
    go_enter Try.func13, Try.ntmps13
    go_wp2_with (first | (go_at_call 17; (with_reducible refine (HC _ (by repeat (first | exact Gr.refl _ | with_reducible apply Gr.alloc | with_reducible apply Gr.grow | with_reducible apply Gr.drewN | with_reducible apply Gr.drew))).mono ?_); rintro e w' ⟨rfl, hg⟩; obtain ⟨n, os, rfl⟩ := hg.out; clear hg))
    refine ⟨rfl, _, by simp [results, Try.results13, go_sem]; (repeat' first | rfl | apply And.intro), ret_ib HR.out, (by repeat (first | exact Bl.refl _ | with_reducible apply Bl.alloc | with_reducible apply Bl.grow | with_reducible apply Bl.sd | with_reducible apply Bl.drewN | with_reducible apply Bl.drew))⟩
set_option maxHeartbeats 4000000 in
theorem qindex (A : Option Addr) (c : Nat) (l : List Nb) (t : Int) (w : World) (hr : Rd w A l) (hc : l.length ≤ c) (hs : sortedN l) :
    Calls Try.prog 47 #[.slice A l.length c, .int .i64 t] w fun e w' => e = .returned (.int .i64 (indexS l t)) ∧ w = w' := by
  have hl := hr.1
  have HR := Hd.mk hr
  have HS := Hd.mk hs
  clear hr hs
  go_enter Try.func47, Try.ntmps47
  go_wp2
  go_loopg [5] l.length (fun gg s5 wr => ∃ (k : Nat), k ≤ l.length ∧ l.length - k ≤ gg ∧ s5 = .int .i64 k ∧ wr = w ∧ Hd (∀ j, j < k → (nth l j).nd ≠ t))
  case atStart => exact ⟨0, Nat.zero_le _, by omega, rfl, rfl, ⟨fun j hj => by omega⟩⟩
  case round =>
    obtain ⟨k, hk, hg, rfl, rfl, HA⟩ := hrel
    by_cases hlt : k < l.length
    · obtain ⟨b, off, rfl, hb, hcell⟩ := HR.out.2 (by omega)
      obtain ⟨k0, _⟩ := hcell k hlt
      have hltz : (k : Int) < (l.length : Int) := by omega
      have hkz : (0 : Int) ≤ (k : Int) := by omega
      clear hcell
      by_cases c1 : (nth l k).nd = t
      · have HI := Hd.mk (index_at HS.out hlt c1)
        have c1' : ((nth l k).nd == t) = true := by simp [c1]
        go_wp2
        go_ret
        refine ⟨ret_i ?_, rfl⟩
        unfold indexS
        rw [if_pos HI.out.2, HI.out.1]
      · have c1' : ((nth l k).nd == t) = false := by simp [c1]
        have C1 := Hd.mk c1
        clear c1
        go_wp2
        go_roundg (l.length - (k + 1))
        case measure => omega
        case rel => exact ⟨k + 1, by omega, by omega, by go_num, rfl, ⟨fun j hj => by
          rcases Nat.lt_or_ge j k with h | h
          · exact HA.out j h
          · obtain rfl : j = k := by omega
            exact C1.out⟩⟩
    · obtain rfl : k = l.length := by omega
      have hltz : ¬ ((l.length : Int) < (l.length : Int)) := by omega
      go_wp2
      go_ret
      refine ⟨ret_i ?_, rfl⟩
      unfold indexS
      rw [if_neg (by rw [index_none HA.out]; decide)]
end Go.Proofs.Ytlifpafnkagofaa.F
