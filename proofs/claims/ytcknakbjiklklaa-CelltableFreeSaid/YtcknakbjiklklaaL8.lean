import Derived.Test.YtcknakbjiklklaaF18
import Derived.Test.YtcknakbjiklklaaF38
import Derived.Test.YtcknakbjiklklaaF42
import Derived.Test.YtcknakbjiklklaaF45
import Derived.Deep.DeepCutAuto
/- The law CelltableFree, walked. -/
namespace Go.Proofs.Ytcknakbjiklklaa.L
open Go.RowKit Go.Sort Go.Proofs.Ytcknakbjiklklaa.B Go.Proofs.Ytcknakbjiklklaa.S Go.Proofs.Ytcknakbjiklklaa.F
set_option linter.unusedVariables false
set_option linter.unusedSimpArgs false
theorem peq_true (A B : Option Addr) (c d : Nat) (l : List Sp) (w : World) (ha : RdP w A l) (hb : RdP w B l) (hc : l.length ≤ c) (hd : l.length ≤ d) :
    Calls Try.prog 32 #[.slice A l.length c, .slice B l.length d] w fun e w' => e = .returned (.bool true) ∧ Gr w w' := by
  have := peq A B c d l l w ha hb hc hd
  rwa [decide_eq_true rfl] at this
set_option maxHeartbeats 8000000 in
set_option maxRecDepth 100000 in
theorem lawFree_early (nd len : Int) (A : Option Addr) (c : Nat) (l : List TC) (C : Option Addr) (kc : Nat) (f : List Int) (nn peer : Int) (w : World) (hr : Rd w A l) (hc : l.length ≤ c) (hf : RdI w C f) (hk : f.length ≤ kc) (hn0 : 0 ≤ nn) (hn1 : nn ≤ 255) (hmain : ¬ (fewT len l.length = true ∧ ¬ (64 : Int) < (f.length : Int) ∧ checkT nd len l = 0 ∧ ¬ peer < 0 ∧ ¬ 32 ≤ peer ∧ ¬ peer = nd ∧ betS nd len l peer = [])) :
    Calls Try.prog 10 #[.agg #[.int .i64 nd, .int .i64 len, .slice A l.length c], .slice C f.length kc, .int .u8 nn, .int .i64 peer] w fun e w' => e = .returned (.bool true) ∧ Bl w w' := by
  have HMain := Hd.mk hmain
  clear hmain
  have hm := mixed
  have hA := awake_
  have hF := fun W => qfew nd len A c l W hr.1
  have hC : ∀ W, Bl w W → _ := fun W h => tcheck nd len A c l W (hr.bl h) hc
  have hBt : ∀ W, Bl w W → _ := fun W h => tbetween nd len A c l peer W (hr.bl h) hc
  have hCd : ∀ (m : Int) W, Bl w W → _ := fun m W h => tcand nd len A c l C kc f m W (hr.bl h) hc (RdI.bl hf h) hk
  have HR := Hd.mk hr
  have HFr := Hd.mk hf
  have HCd := Hd.mk hCd
  have hl := hr.1
  have hfl := hf.1
  clear hr hf hCd
  go_enter Try.func10, Try.ntmps10
  go_upto_region 3 with (first | (go_at_call 11; (with_reducible refine (hA _).mono ?_); rintro e w' ⟨rfl, hg⟩; obtain ⟨n, os, rfl⟩ := hg.out; clear hg))
  generalize hW : Sort.grow _ _ = W
  have HWe := Hd.mk hW
  clear hW
  have HT : Hd (T3 W w.heap.size nd len (.slice A l.length c)) := ⟨⟨by rw [← HWe.out]; simp [go_sem], by rw [← HWe.out]; go_simp, by rw [← HWe.out]; go_simp, by rw [← HWe.out]; go_simp, fun k => by rw [← HWe.out]; go_simp⟩⟩
  have HB : Hd (Bl w W) := ⟨by rw [← HWe.out]; exact (by repeat (first | exact Bl.refl _ | with_reducible apply Bl.alloc | with_reducible apply Bl.grow | with_reducible apply Bl.sd | with_reducible apply Bl.drewN | with_reducible apply Bl.drew))⟩
  have hws := HB.out.size
  clear HWe hA
  generalize hp4 : w.heap.size = p4 at *
  obtain ⟨z_T, a_T, b_T, c_T, d_T⟩ := HT.out
  cases hfe : fewT len l.length with
  | false =>
    rw [hfe] at hF
    clear hfe
    go_wp2_with (first | (go_at_call 12; (with_reducible refine (hF _).mono ?_); rintro e w' ⟨rfl, hg⟩; obtain ⟨n, os, rfl⟩ := hg.out; clear hg) | (go_at_call 13; (with_reducible refine (hC _ (HB.out.trans (by repeat (first | with_reducible exact Bl.refl _ | with_reducible apply Bl.alloc | with_reducible apply Bl.grow | with_reducible apply Bl.sd | with_reducible apply Bl.drewN | with_reducible apply Bl.drew)))).mono ?_); rintro e w' ⟨rfl, hg⟩; obtain ⟨n, os, rfl⟩ := hg.out; clear hg))
    go_ret
    exact ⟨rfl, HB.out.trans (by repeat (first | with_reducible exact Bl.refl _ | with_reducible apply Bl.alloc | with_reducible apply Bl.grow | with_reducible apply Bl.sd | with_reducible apply Bl.drewN | with_reducible apply Bl.drew))⟩
  | true =>
    rw [hfe] at hF
    by_cases h64 : (64 : Int) < (f.length : Int)
    · clear hfe
      go_wp2_with (first | (go_at_call 12; (with_reducible refine (hF _).mono ?_); rintro e w' ⟨rfl, hg⟩; obtain ⟨n, os, rfl⟩ := hg.out; clear hg) | (go_at_call 13; (with_reducible refine (hC _ (HB.out.trans (by repeat (first | with_reducible exact Bl.refl _ | with_reducible apply Bl.alloc | with_reducible apply Bl.grow | with_reducible apply Bl.sd | with_reducible apply Bl.drewN | with_reducible apply Bl.drew)))).mono ?_); rintro e w' ⟨rfl, hg⟩; obtain ⟨n, os, rfl⟩ := hg.out; clear hg))
      go_ret
      exact ⟨rfl, HB.out.trans (by repeat (first | with_reducible exact Bl.refl _ | with_reducible apply Bl.alloc | with_reducible apply Bl.grow | with_reducible apply Bl.sd | with_reducible apply Bl.drewN | with_reducible apply Bl.drew))⟩
    · by_cases hchk : checkT nd len l = 0
      · rw [hchk] at hC
        by_cases hp0 : peer < 0
        · clear hfe
          go_wp2_with (first | (go_at_call 12; (with_reducible refine (hF _).mono ?_); rintro e w' ⟨rfl, hg⟩; obtain ⟨n, os, rfl⟩ := hg.out; clear hg) | (go_at_call 13; (with_reducible refine (hC _ (HB.out.trans (by repeat (first | with_reducible exact Bl.refl _ | with_reducible apply Bl.alloc | with_reducible apply Bl.grow | with_reducible apply Bl.sd | with_reducible apply Bl.drewN | with_reducible apply Bl.drew)))).mono ?_); rintro e w' ⟨rfl, hg⟩; obtain ⟨n, os, rfl⟩ := hg.out; clear hg))
          go_ret
          exact ⟨rfl, HB.out.trans (by repeat (first | with_reducible exact Bl.refl _ | with_reducible apply Bl.alloc | with_reducible apply Bl.grow | with_reducible apply Bl.sd | with_reducible apply Bl.drewN | with_reducible apply Bl.drew))⟩
        · by_cases hp1 : 32 ≤ peer
          · clear hfe
            go_wp2_with (first | (go_at_call 12; (with_reducible refine (hF _).mono ?_); rintro e w' ⟨rfl, hg⟩; obtain ⟨n, os, rfl⟩ := hg.out; clear hg) | (go_at_call 13; (with_reducible refine (hC _ (HB.out.trans (by repeat (first | with_reducible exact Bl.refl _ | with_reducible apply Bl.alloc | with_reducible apply Bl.grow | with_reducible apply Bl.sd | with_reducible apply Bl.drewN | with_reducible apply Bl.drew)))).mono ?_); rintro e w' ⟨rfl, hg⟩; obtain ⟨n, os, rfl⟩ := hg.out; clear hg))
            go_ret
            exact ⟨rfl, HB.out.trans (by repeat (first | with_reducible exact Bl.refl _ | with_reducible apply Bl.alloc | with_reducible apply Bl.grow | with_reducible apply Bl.sd | with_reducible apply Bl.drewN | with_reducible apply Bl.drew))⟩
          · by_cases hpn : peer = nd
            · have hpb : (peer == nd) = true := by simp [hpn]
              clear hfe hpn
              go_wp2_with (first | (go_at_call 12; (with_reducible refine (hF _).mono ?_); rintro e w' ⟨rfl, hg⟩; obtain ⟨n, os, rfl⟩ := hg.out; clear hg) | (go_at_call 13; (with_reducible refine (hC _ (HB.out.trans (by repeat (first | with_reducible exact Bl.refl _ | with_reducible apply Bl.alloc | with_reducible apply Bl.grow | with_reducible apply Bl.sd | with_reducible apply Bl.drewN | with_reducible apply Bl.drew)))).mono ?_); rintro e w' ⟨rfl, hg⟩; obtain ⟨n, os, rfl⟩ := hg.out; clear hg))
              go_ret
              exact ⟨rfl, HB.out.trans (by repeat (first | with_reducible exact Bl.refl _ | with_reducible apply Bl.alloc | with_reducible apply Bl.grow | with_reducible apply Bl.sd | with_reducible apply Bl.drewN | with_reducible apply Bl.drew))⟩
            · have hpb : (peer == nd) = false := by simp [hpn]
              by_cases hbe : betS nd len l peer = []
              · exact absurd ⟨hfe, (by omega), hchk, (by omega), (by omega), hpn, hbe⟩ HMain.out
              · have hbl : (0 : Int) < ((betS nd len l peer).length : Int) := by
                  have := List.length_pos_iff.2 hbe
                  omega
                generalize betS nd len l peer = bs at *
                clear hfe hbe
                go_wp2_with (first | (go_at_call 12; (with_reducible refine (hF _).mono ?_); rintro e w' ⟨rfl, hg⟩; obtain ⟨n, os, rfl⟩ := hg.out; clear hg) | (go_at_call 13; (with_reducible refine (hC _ (HB.out.trans (by repeat (first | with_reducible exact Bl.refl _ | with_reducible apply Bl.alloc | with_reducible apply Bl.grow | with_reducible apply Bl.sd | with_reducible apply Bl.drewN | with_reducible apply Bl.drew)))).mono ?_); rintro e w' ⟨rfl, hg⟩; obtain ⟨n, os, rfl⟩ := hg.out; clear hg) | (go_at_call 28; (with_reducible refine (hBt _ (HB.out.trans (by repeat (first | with_reducible exact Bl.refl _ | with_reducible apply Bl.alloc | with_reducible apply Bl.grow | with_reducible apply Bl.sd | with_reducible apply Bl.drewN | with_reducible apply Bl.drew)))).mono ?_); rintro e Y ⟨v, rfl, ho, hb⟩; obtain ⟨A9, c9, rfl, hc9, _⟩ := ho.rd; have HB9 := Hd.mk (HB.out.trans (Bl.trans (by repeat (first | with_reducible exact Bl.refl _ | with_reducible apply Bl.alloc | with_reducible apply Bl.grow | with_reducible apply Bl.sd | with_reducible apply Bl.drewN | with_reducible apply Bl.drew)) hb)); clear ho hb))
                go_ret
                exact ⟨rfl, HB9.out.trans (by repeat (first | with_reducible exact Bl.refl _ | with_reducible apply Bl.alloc | with_reducible apply Bl.grow | with_reducible apply Bl.sd | with_reducible apply Bl.drewN | with_reducible apply Bl.drew))⟩
      · have hqb : (checkT nd len l != 0) = true := by simp [hchk]
        generalize checkT nd len l = q at *
        clear hfe
        go_wp2_with (first | (go_at_call 12; (with_reducible refine (hF _).mono ?_); rintro e w' ⟨rfl, hg⟩; obtain ⟨n, os, rfl⟩ := hg.out; clear hg) | (go_at_call 13; (with_reducible refine (hC _ (HB.out.trans (by repeat (first | with_reducible exact Bl.refl _ | with_reducible apply Bl.alloc | with_reducible apply Bl.grow | with_reducible apply Bl.sd | with_reducible apply Bl.drewN | with_reducible apply Bl.drew)))).mono ?_); rintro e w' ⟨rfl, hg⟩; obtain ⟨n, os, rfl⟩ := hg.out; clear hg))
        go_ret
        exact ⟨rfl, HB.out.trans (by repeat (first | with_reducible exact Bl.refl _ | with_reducible apply Bl.alloc | with_reducible apply Bl.grow | with_reducible apply Bl.sd | with_reducible apply Bl.drewN | with_reducible apply Bl.drew))⟩
set_option maxHeartbeats 40000000 in
set_option maxRecDepth 100000 in
theorem lawFree_main (nd len : Int) (A : Option Addr) (c : Nat) (l : List TC) (C : Option Addr) (kc : Nat) (f : List Int) (nn peer : Int) (w : World) (hr : Rd w A l) (hc : l.length ≤ c) (hf : RdI w C f) (hk : f.length ≤ kc) (hn0 : 0 ≤ nn) (hn1 : nn ≤ 255) (hmain : fewT len l.length = true ∧ ¬ (64 : Int) < (f.length : Int) ∧ checkT nd len l = 0 ∧ ¬ peer < 0 ∧ ¬ 32 ≤ peer ∧ ¬ peer = nd ∧ betS nd len l peer = []) :
    Calls Try.prog 10 #[.agg #[.int .i64 nd, .int .i64 len, .slice A l.length c], .slice C f.length kc, .int .u8 nn, .int .i64 peer] w fun e w' => e = .returned (.bool true) ∧ Bl w w' := by
  have hm := mixed
  have hA := awake_
  have hF := fun W => qfew nd len A c l W hr.1
  have hC : ∀ W, Bl w W → _ := fun W h => tcheck nd len A c l W (hr.bl h) hc
  have hBt : ∀ W, Bl w W → _ := fun W h => tbetween nd len A c l peer W (hr.bl h) hc
  have hCd : ∀ (m : Int) W, Bl w W → _ := fun m W h => tcand nd len A c l C kc f m W (hr.bl h) hc (RdI.bl hf h) hk
  have HR := Hd.mk hr
  have HFr := Hd.mk hf
  have HCd := Hd.mk hCd
  have hl := hr.1
  have hfl := hf.1
  clear hr hf hCd
  obtain ⟨hfe, h64, hchk, hp0, hp1, hpn, hbe⟩ := hmain
  go_enter Try.func10, Try.ntmps10
  go_upto_region 3 with (first | (go_at_call 11; (with_reducible refine (hA _).mono ?_); rintro e w' ⟨rfl, hg⟩; obtain ⟨n, os, rfl⟩ := hg.out; clear hg))
  generalize hW : Sort.grow _ _ = W
  have HWe := Hd.mk hW
  clear hW
  have HT : Hd (T3 W w.heap.size nd len (.slice A l.length c)) := ⟨⟨by rw [← HWe.out]; simp [go_sem], by rw [← HWe.out]; go_simp, by rw [← HWe.out]; go_simp, by rw [← HWe.out]; go_simp, fun k => by rw [← HWe.out]; go_simp⟩⟩
  have HB : Hd (Bl w W) := ⟨by rw [← HWe.out]; exact (by repeat (first | exact Bl.refl _ | with_reducible apply Bl.alloc | with_reducible apply Bl.grow | with_reducible apply Bl.sd | with_reducible apply Bl.drewN | with_reducible apply Bl.drew))⟩
  have hws := HB.out.size
  clear HWe hA
  generalize hp4 : w.heap.size = p4 at *
  obtain ⟨z_T, a_T, b_T, c_T, d_T⟩ := HT.out
  have hpb : (peer == nd) = false := by simp [hpn]
  rw [hfe] at hF
  have hl40 : l.length ≤ 40 := by
    have := (checkT_ok hchk).2.2.1
    unfold fewT fewC at hfe
    simp at hfe
    omega
  have hln := (checkT_ok hchk).2.1
  have hfacts := free_facts (p := candS nd len l f nn) hchk hl40 (by omega) (by omega) hpn hbe (cand_places hn0)
  have hrel := cand_rel (nd := nd) (len := len) (l := l) (f := f) hn0
  rw [hbe] at hBt
  have hc1 := HCd.out nn
  have hc2 := HCd.out 512
  dsimp only at hrel
  generalize candS nd len l f nn = p at *
  generalize candS nd len l f 512 = pa at *
  obtain ⟨hr1, hr2, hr3, hr4⟩ := hrel
  have HFa := Hd.mk hfacts
  have HR2 := Hd.mk hr2
  rw [hchk] at hC
  clear hfacts hr2 HCd hfe hchk hbe
  go_upto_region 5 with (first | (go_at_call 12; (with_reducible refine (hF _).mono ?_); rintro e w' ⟨rfl, hg⟩; obtain ⟨n, os, rfl⟩ := hg.out; clear hg) | (go_at_call 13; (with_reducible refine (hC _ (HB.out.trans (by repeat (first | with_reducible exact Bl.refl _ | with_reducible apply Bl.alloc | with_reducible apply Bl.grow | with_reducible apply Bl.sd | with_reducible apply Bl.drewN | with_reducible apply Bl.drew)))).mono ?_); rintro e w' ⟨rfl, hg⟩; obtain ⟨n, os, rfl⟩ := hg.out; clear hg) | (go_at_call 28; (with_reducible refine (hBt _ (HB.out.trans (by repeat (first | with_reducible exact Bl.refl _ | with_reducible apply Bl.alloc | with_reducible apply Bl.grow | with_reducible apply Bl.sd | with_reducible apply Bl.drewN | with_reducible apply Bl.drew)))).mono ?_); rintro e Y ⟨v, rfl, ho, hb⟩; obtain ⟨A9, c9, rfl, hc9, _⟩ := ho.rd; have hb9 : Bl W Y := Bl.trans (by repeat (first | with_reducible exact Bl.refl _ | with_reducible apply Bl.alloc | with_reducible apply Bl.grow | with_reducible apply Bl.sd | with_reducible apply Bl.drewN | with_reducible apply Bl.drew)) hb; clear ho hb))
  replace HB := Hd.mk (HB.out.trans hb9)
  replace HT := Hd.mk (HT.out.bl hb9)
  clear hb9 z_T a_T b_T c_T d_T hF hC hBt
  obtain ⟨z_T, a_T, b_T, c_T, d_T⟩ := HT.out
  go_wp2_with fail
  refine (hc1 _ (HB.out.trans (by repeat (first | with_reducible exact Bl.refl _ | with_reducible apply Bl.alloc | with_reducible apply Bl.grow | with_reducible apply Bl.sd | with_reducible apply Bl.drewN | with_reducible apply Bl.drew)))).mono ?_
  rintro e Y1 ⟨v1, rfl, ho, hb⟩
  obtain ⟨A1, c1, rfl, hk1, rd1⟩ := OwP.rd ho
  have hb' : Bl Y Y1 := Bl.trans (by repeat (first | with_reducible exact Bl.refl _ | with_reducible apply Bl.alloc | with_reducible apply Bl.grow | with_reducible apply Bl.sd | with_reducible apply Bl.drewN | with_reducible apply Bl.drew)) hb
  replace HB := Hd.mk (HB.out.trans hb')
  replace HT := Hd.mk (HT.out.bl hb')
  have HP := Hd.mk rd1
  clear z_T a_T b_T c_T d_T hb hb' ho rd1 hc1
  obtain ⟨z_T, a_T, b_T, c_T, d_T⟩ := HT.out
  go_wp2_with fail
  refine (hc2 _ (HB.out.trans (by repeat (first | with_reducible exact Bl.refl _ | with_reducible apply Bl.alloc | with_reducible apply Bl.grow | with_reducible apply Bl.sd | with_reducible apply Bl.drewN | with_reducible apply Bl.drew)))).mono ?_
  rintro e Y2 ⟨v2, rfl, ho, hb⟩
  obtain ⟨A2, c2, rfl, hk2, rd2⟩ := OwP.rd ho
  have hb' : Bl Y1 Y2 := Bl.trans (by repeat (first | with_reducible exact Bl.refl _ | with_reducible apply Bl.alloc | with_reducible apply Bl.grow | with_reducible apply Bl.sd | with_reducible apply Bl.drewN | with_reducible apply Bl.drew)) hb
  replace HB := Hd.mk (HB.out.trans hb')
  replace HT := Hd.mk (HT.out.bl hb')
  replace HP := Hd.mk (RdP.bl HP.out hb')
  have HPa := Hd.mk rd2
  clear z_T a_T b_T c_T d_T hb hb' ho rd2 hc2
  obtain ⟨z_T, a_T, b_T, c_T, d_T⟩ := HT.out
  have heq : ∀ Z, Bl Y2 Z → Calls Try.prog 32 #[.slice A1 p.length c1, .slice A2 p.length c2] Z fun e w' => e = .returned (.bool true) ∧ Gr Z w' := fun Z h => peq_true A1 A2 c1 c2 p Z (RdP.bl HP.out h) (by have := RdP.pre (RdP.bl HPa.out h) hr3; rwa [HR2.out] at this) hk1 (by omega)
  have hmin : min nn (pa.length : Int) = (p.length : Int) := hr1.symm
  have hp64 : (p.length : Int) ≤ 255 := by omega
  clear hr1 z_T a_T b_T c_T d_T
  go_upto_region 7 with fail
  go_cut [93] (fun s93 wx => s93 = .bool false ∧ Hd (Bl Y2 wx))
  case first =>
    obtain ⟨z_T, a_T, b_T, c_T, d_T⟩ := HT.out
    have hpl : (p.length : Int) ≤ (pa.length : Int) := by omega
    have hpc : pa.length ≤ c2 := hk2
    have hpc2 : p.length ≤ c2 := by omega
    by_cases hfe : (f.length : Int) = len
    · have hfb : ((f.length : Int) != len) = false := by simp [hfe]
      clear hfe hr4
      go_wp2_with (first | (go_at_call 32; (with_reducible refine (heq _ (by repeat (first | with_reducible exact Bl.refl _ | with_reducible apply Bl.alloc | with_reducible apply Bl.grow | with_reducible apply Bl.sd | with_reducible apply Bl.drewN | with_reducible apply Bl.drew))).mono ?_); rintro e w' ⟨rfl, hg⟩; obtain ⟨n, os, rfl⟩ := hg.out; clear hg))
      go_meet
      exact ⟨rfl, ⟨(by repeat (first | with_reducible exact Bl.refl _ | with_reducible apply Bl.alloc | with_reducible apply Bl.grow | with_reducible apply Bl.sd | with_reducible apply Bl.drewN | with_reducible apply Bl.drew))⟩⟩
    · have hfb : ((f.length : Int) != len) = true := by simp [hfe]
      have hpa0 : ¬ (0 : Int) < (pa.length : Int) := by rw [hr4 hfe]; simp
      have hpa1 : decide (0 < pa.length) = false := decide_eq_false (by omega)
      have HPa1 := Hd.mk hpa1
      clear hfe hr4 hpa1
      go_wp2_with (first | (go_at_call 32; (with_reducible refine (heq _ (by repeat (first | with_reducible exact Bl.refl _ | with_reducible apply Bl.alloc | with_reducible apply Bl.grow | with_reducible apply Bl.sd | with_reducible apply Bl.drewN | with_reducible apply Bl.drew))).mono ?_); rintro e w' ⟨rfl, hg⟩; obtain ⟨n, os, rfl⟩ := hg.out; clear hg))
      go_meet
      exact ⟨(by first | rfl | rw [HPa1.out]), ⟨(by repeat (first | with_reducible exact Bl.refl _ | with_reducible apply Bl.alloc | with_reducible apply Bl.grow | with_reducible apply Bl.sd | with_reducible apply Bl.drewN | with_reducible apply Bl.drew))⟩⟩
  case rest =>
    obtain ⟨rfl, hbz⟩ := hcut
    replace HB := Hd.mk (HB.out.trans hbz.out)
    replace HT := Hd.mk (HT.out.bl hbz.out)
    replace HP := Hd.mk (RdP.bl HP.out hbz.out)
    clear hbz heq HPa HR2 hr3 hr4 hmin
    go_upto_region 9 with fail
    generalize hwc : wc = V at *
    clear hwc
    go_cut [11, 12] (fun s11 s12 wx => ∃ p11 p12 : Nat, s11 = .pointer (some ⟨p11, 0, none⟩) ∧ s12 = .pointer (some ⟨p12, 0, none⟩) ∧ Hd ((p11 ≠ p12 ∧ V.heap.size ≤ p11) ∧ V.heap.size ≤ p12) ∧ Hd (T3 wx p11 nd len (.slice A l.length c)) ∧ Hd (T3 wx p12 peer len (.slice none 0 0)) ∧ Hd (Bl V wx))
    case first =>
      obtain ⟨z_T, a_T, b_T, c_T, d_T⟩ := HT.out
      go_region
      all_goals
        go_wp2_with fail
        go_meet
        exact ⟨_, _, rfl, rfl, ⟨by omega⟩, ⟨⟨by simp [go_sem], by go_simp, by go_simp, by go_simp, fun k => by go_simp⟩⟩, ⟨⟨by simp [go_sem], by go_simp, by go_simp, by go_simp, fun k => by go_simp⟩⟩, ⟨(by repeat (first | with_reducible exact Bl.refl _ | with_reducible apply Bl.alloc | with_reducible apply Bl.grow | with_reducible apply Bl.sd | with_reducible apply Bl.drewN | with_reducible apply Bl.drew))⟩⟩
    case rest =>
      obtain ⟨p11, p12, rfl, rfl, HN, H11, H12, HBV⟩ := hcut
      replace HT := Hd.mk HT.out
      have hvs := HBV.out.size
      have HR3 : Hd (RdF wc p11 p12 A l) := ⟨RdF.old HR.out (HB.out.trans HBV.out) (by have := HB.out.size; have := HN.out; omega) (by have := HB.out.size; have := HN.out; omega)⟩
      have HR4 : Hd (RdF wc p11 p12 none []) := ⟨⟨by simp, fun h => by simp at h⟩⟩
      go_upto_region 11 with fail
      generalize hwc1 : wc = V1 at *
      clear hwc1
      have hm11 := H11.out.lt
      have hm12 := H12.out.lt
      have hN1 := HN.out.1.1
      have hN2 := HN.out.1.2
      have hN3 := HN.out.2
      have hp4V := HT.out.lt
      go_loopg [13, 14, 15, 16, 17, 18, 19, 20, 101] p.length (fun gg s13 s14 s15 s16 s17 s18 s19 s20 s101 wr => ∃ (k : Nat) (A3 : Option Addr) (c3 : Nat) (A4 : Option Addr) (c4 : Nat), k ≤ p.length ∧ p.length - k ≤ gg ∧ s101 = .int .i64 k ∧
        Hd (T3 wr p11 nd len (.slice A3 (addK l (cC peer p) k).length c3)) ∧ Hd (T3 wr p12 peer len (.slice A4 (addK [] (cD nd p) k).length c4)) ∧
        Hd (RdF wr p11 p12 A3 (addK l (cC peer p) k) ∧ (addK l (cC peer p) k).length ≤ c3) ∧ Hd (RdF wr p11 p12 A4 (addK [] (cD nd p) k) ∧ (addK [] (cD nd p) k).length ≤ c4) ∧ Hd (Bl V wr ∧ V1.heap.size ≤ wr.heap.size))
      case atStart => exact ⟨0, A, c, none, 0, Nat.zero_le _, by omega, rfl, H11, H12, ⟨HR3.out, hc⟩, ⟨HR4.out, Nat.le_refl _⟩, ⟨HBV.out, Nat.le_refl _⟩⟩
      case round =>
        obtain ⟨k, A3, c3, A4, c4, hkp, hg, rfl, HD, HE, HO, HQ, HG⟩ := hrel
        clear H11 H12 HR3 HR4
        by_cases hlt : k < p.length
        · have hltz : (k : Int) < (p.length : Int) := by omega
          have hkz : (0 : Int) ≤ (k : Int) := by omega
          obtain ⟨pb, po, rfl, hpbz, hpc⟩ := (RdP.bl HP.out HG.out.1).2 (by omega)
          have hfit := HFa.out.fits k hlt
          obtain ⟨⟨s0, s1⟩, ⟨o0, o1⟩, s2, hbs, a0, a1⟩ := HFa.out.rng k hlt
          have hown := HFa.out.own k hlt
          have hoth := HFa.out.oth k hlt
          have hat := HFa.out.atk k hlt
          have hno := HFa.out.nofit k hlt
          have hprev : k = 0 ∨ ∃ j, k = j + 1 ∧ (nth p j).sl < (nth p k).sl := by
            rcases Nat.eq_zero_or_pos k with h | h
            · exact .inl h
            · exact .inr ⟨k - 1, by omega, HFa.out.sorted (k - 1) k (by omega) hlt⟩
          have hcC : cC peer p k = ⟨(nth p k).sl, (nth p k).off, 2, (k : Int) % 2 == 0, peer, -1⟩ := rfl
          have hcD : cD nd p k = ⟨(nth p k).sl, (nth p k).off, 2, !((k : Int) % 2 == 0), nd, -1⟩ := rfl
          have hcell := hpc k hlt
          have hmod : (k : Int).tmod 2 = (k : Int) % 2 := Int.tmod_eq_emod_of_nonneg hkz
          generalize cC peer p k = cc at *
          generalize cD nd p k = cd at *
          generalize addK l (cC peer p) k = own at *
          generalize hown2 : addK l (cC peer p) (k + 1) = own2 at *
          generalize addK [] (cD nd p) k = oth at *
          generalize hoth2 : addK [] (cD nd p) (k + 1) = oth2 at *
          generalize nth p k = x at *
          obtain ⟨sl, off⟩ := x
          dsimp only at *
          obtain ⟨s, rfl⟩ := Int.eq_ofNat_of_zero_le s0
          obtain ⟨o, rfl⟩ := Int.eq_ofNat_of_zero_le o0
          obtain ⟨k0, k1⟩ := hcell
          subst hcC hcD
          rw [Int.toNat_natCast] at hbs a0 a1
          generalize hpar : ((k : Int) % 2 == 0) = par at *
          obtain ⟨fb, fo, rfl, hfbz, hfc⟩ := (RdI.bl HFr.out (HB.out.trans HG.out.1)).2 (by omega)
          have fc := hfc s (by omega)
          have hbit := bit_of o a0 a1
          rw [hbs] at hbit
          have hbit1 : bits .and .i64 (nth f s / 2 ^ o) 1 = 1 := beq_iff_eq.1 hbit
          have hPrev := Hd.mk hprev
          have HOwn2 := Hd.mk hown2
          have HOth2 := Hd.mk hoth2
          clear hown2 hoth2
          have HHown := Hd.mk hown
          have HHoth := Hd.mk hoth
          have HHat := Hd.mk hat
          have HHno := Hd.mk hno
          have HHfit := Hd.mk hfit
          have HPc := Hd.mk hpc
          clear hfc hbit hbs hprev hown hoth hat hno hfit hpc
          generalize nth f s = a at *
          obtain ⟨z_T, a_T, b_T, c_T, d_T⟩ := HT.out.bl HG.out.1
          go_upto_region 13 with fail
          generalize hX : World.alloc _ _ = X
          have HXe := Hd.mk hX
          clear hX
          have BX : Bl wr X := by rw [← HXe.out]; exact (by repeat (first | with_reducible exact Bl.refl _ | with_reducible apply Bl.alloc | with_reducible apply Bl.grow | with_reducible apply Bl.sd | with_reducible apply Bl.drewN | with_reducible apply Bl.drew))
          have HG14 := Hd.mk HG.out.2
          have H14 : Hd (T2 X wr.heap.size s o) := ⟨⟨by rw [← HXe.out]; simp [go_sem], by rw [← HXe.out]; go_simp, by rw [← HXe.out]; go_simp⟩⟩
          have HGX := Hd.mk (And.intro (HG.out.1.trans BX) (Nat.le_trans HG.out.2 BX.size))
          have hft := fun Y (h : Gr X Y) => tfits nd len A c l (some ⟨fb, fo, none⟩) kc f s o Y (HR.out.bl (HB.out.trans (HGX.out.1.trans h.bl))) hc (RdI.bl HFr.out (HB.out.trans (HGX.out.1.trans h.bl))) hk
          rw [HHfit.out] at hft
          have fcX := (Below.cell BX (p := ⟨fb, fo + s, none⟩) hfbz).trans fc
          have zfX : fb < X.heap.size := World.block_lt_of_cell? X _ fcX
          have op := fun q => Below.cell BX (p := ⟨pb, q, none⟩) hpbz
          have zpX : pb < X.heap.size := Nat.lt_of_lt_of_le hpbz BX.size
          have hpcX : ∀ j, j < p.length → X.cell? ⟨pb, po + j * 2, none⟩ = some (.int .i64 (nth p j).sl) := fun j hj => (op _).trans (HPc.out j hj).1
          have HPcX := Hd.mk hpcX
          replace HD := Hd.mk (HD.out.bl BX)
          replace HE := Hd.mk (HE.out.bl BX)
          replace HO := Hd.mk (And.intro (HO.out.1.bl BX) HO.out.2)
          replace HQ := Hd.mk (And.intro (HQ.out.1.bl BX) HQ.out.2)
          clear HXe BX op hpcX HPc fc hfbz hpbz k0 k1 z_T a_T b_T c_T d_T HG
          have hq14 : V1.heap.size ≤ wr.heap.size := HG14.out
          generalize wr.heap.size = q14 at *
          obtain ⟨z_T, a_T, b_T, c_T, d_T⟩ := HT.out.bl HGX.out.1
          obtain ⟨z_S, a_S, b_S⟩ := H14.out
          have hoz : (0 : Int) ≤ (o : Int) := by omega
          have hsz : (0 : Int) ≤ (s : Int) := by omega
          have hsf : (s : Int) < (f.length : Int) := s2
          have d1 : decide ((s : Int) < 0) = false := decide_eq_false (by omega)
          have d2 : decide ((o : Int) < 0) = false := decide_eq_false (by omega)
          have d3 : decide ((f.length : Int) ≤ (s : Int)) = false := decide_eq_false (by omega)
          have d3n : decide (f.length ≤ s) = false := decide_eq_false (by omega)
          go_cut [154] (fun s154 wx => s154 = .bool false ∧ Hd (Gr X wx))
          case first =>
            rcases hPrev.out with h0 | ⟨j, hj, hys⟩
            · have d4 : decide ((0 : Int) < (k : Int)) = false := decide_eq_false (by omega)
              (refine wp_region_quiet_grown (by assumption) (by kernel_rfl) ?_; (repeat (go_big_quiet_step (first | (go_at_call 30; with_reducible exact quiet_grown rfl (hft _ (by repeat (first | exact Gr.refl _ | with_reducible apply Gr.alloc | with_reducible apply Gr.grow | with_reducible apply Gr.drewN | with_reducible apply Gr.drew))))))); refine wpQuiet_nil ?_; intro _ hw'; obtain ⟨⟨nq, osq⟩, hw''⟩ := hw'; subst hw'')
              go_wp2_with fail
              go_meet
              exact ⟨rfl, ⟨(by repeat (first | exact Gr.refl _ | with_reducible apply Gr.alloc | with_reducible apply Gr.grow | with_reducible apply Gr.drewN | with_reducible apply Gr.drew))⟩⟩
            · have d4 : decide ((0 : Int) < (k : Int)) = true := decide_eq_true (by omega)
              have d4n : decide (0 < k) = true := decide_eq_true (by omega)
              have kj := HPcX.out j (by omega)
              generalize nth p j = y at *
              obtain ⟨ys, yo⟩ := y
              dsimp only at kj hys
              have d5 : decide ((s : Int) ≤ ys) = false := decide_eq_false (by omega)
              have hw : IntKind.i64.wrap ((k : Int) - 1) = (j : Int) := by rw [hj]; rw [show (((j + 1 : Nat) : Int)) - 1 = (j : Int) by omega]; exact IntWalk.i64_in _ (by omega)
              have hjz : (0 : Int) ≤ (j : Int) := by omega
              have hjl : (j : Int) < (p.length : Int) := by omega
              have HJ := Hd.mk hj
              clear hj hys
              (refine wp_region_quiet_grown (by assumption) (by kernel_rfl) ?_; (repeat (go_big_quiet_step (first | (go_at_call 30; with_reducible exact quiet_grown rfl (hft _ (by repeat (first | exact Gr.refl _ | with_reducible apply Gr.alloc | with_reducible apply Gr.grow | with_reducible apply Gr.drewN | with_reducible apply Gr.drew))))))); refine wpQuiet_nil ?_; intro _ hw'; obtain ⟨⟨nq, osq⟩, hw''⟩ := hw'; subst hw'')
              go_wp2_with fail
              go_meet
              exact ⟨rfl, ⟨(by repeat (first | exact Gr.refl _ | with_reducible apply Gr.alloc | with_reducible apply Gr.grow | with_reducible apply Gr.drewN | with_reducible apply Gr.drew))⟩⟩
          case rest =>
            obtain ⟨rfl, hgx⟩ := hcut
            generalize hwc2 : wc = X2 at *
            clear hwc2
            have hbx := hgx.out.bl
            replace HGX := Hd.mk (And.intro (HGX.out.1.trans hbx) (Nat.le_trans HGX.out.2 hbx.size))
            replace HD := Hd.mk (HD.out.bl hbx)
            replace HE := Hd.mk (HE.out.bl hbx)
            replace HO := Hd.mk (And.intro (HO.out.1.bl hbx) HO.out.2)
            replace HQ := Hd.mk (And.intro (HQ.out.1.bl hbx) HQ.out.2)
            replace H14 := Hd.mk (H14.out.bl hbx)
            clear hgx hbx hft fcX zfX zpX HPcX hPrev z_T a_T b_T c_T d_T z_S a_S b_S d1 d2 d3 d3n HHfit
            obtain ⟨z_T, a_T, b_T, c_T, d_T⟩ := HT.out.bl HGX.out.1
            obtain ⟨z_S, a_S, b_S⟩ := H14.out
            go_upto_region 17 with fail
            go_region
            go_upto_region 19 with fail
            generalize hZ : World.drew _ = Z
            have HZe := Hd.mk hZ
            clear hZ
            have BZ : Bl X2 Z := by rw [← HZe.out]; exact (by repeat (first | with_reducible exact Bl.refl _ | with_reducible apply Bl.alloc | with_reducible apply Bl.grow | with_reducible apply Bl.sd | with_reducible apply Bl.drewN | with_reducible apply Bl.drew))
            have H15 : Hd (T6 Z X2.heap.size ⟨s, o, 2, par, peer, -1⟩) := ⟨⟨by rw [← HZe.out]; simp [go_sem], by rw [← HZe.out]; go_simp, by rw [← HZe.out]; go_simp, by rw [← HZe.out]; go_simp, by rw [← HZe.out]; go_simp, by rw [← HZe.out]; go_simp, by rw [← HZe.out]; go_simp⟩⟩
            have H16 : Hd (T6 Z (X2.heap.size + 1) ⟨s, o, 2, !par, nd, -1⟩) := ⟨⟨by rw [← HZe.out]; simp [go_sem], by rw [← HZe.out]; go_simp, by rw [← HZe.out]; go_simp, by rw [← HZe.out]; go_simp, by rw [← HZe.out]; go_simp, by rw [← HZe.out]; go_simp, by rw [← HZe.out]; go_simp⟩⟩
            have hq15 := HGX.out.2
            replace HGX := Hd.mk (And.intro (HGX.out.1.trans BZ) (Nat.le_trans HGX.out.2 BZ.size))
            replace HD := Hd.mk (HD.out.bl BZ)
            replace HE := Hd.mk (HE.out.bl BZ)
            replace HO := Hd.mk (And.intro (HO.out.1.bl BZ) HO.out.2)
            replace HQ := Hd.mk (And.intro (HQ.out.1.bl BZ) HQ.out.2)
            replace H14 := Hd.mk (H14.out.bl BZ)
            clear HZe BZ z_T a_T b_T c_T d_T z_S a_S b_S
            generalize X2.heap.size = q15 at *
            have e1 : q15 ≠ p11 := by omega
            have e2 : q15 ≠ p12 := by omega
            have e3 : q15 + 1 ≠ p11 := by omega
            have e4 : q15 + 1 ≠ p12 := by omega
            have e5 : q14 ≠ p11 := by omega
            have e6 : q14 ≠ p12 := by omega
            have e7 : p4 ≠ p11 := by omega
            have e8 : p4 ≠ p12 := by omega
            have e9 : p12 ≠ p11 := fun e => hN1 e.symm
            generalize q15 + 1 = q16 at *
            obtain ⟨zD, aD, bD, cD', dD⟩ := HD.out
            obtain ⟨zX, aX, bX, cX, dX, eX, fX⟩ := H15.out
            dsimp only at aX bX cX dX eX fX
            have had1 := fun W (h : Bl Z W) => tadd nd len A3 c3 own ⟨s, o, 2, par, peer, -1⟩ W (HO.out.1.bl h).rd HO.out.2
            rw [HHown.out] at had1
            simp only [vT] at had1
            go_wp2_with fail
            refine (had1 _ (by repeat (first | with_reducible exact Bl.refl _ | with_reducible apply Bl.alloc | with_reducible apply Bl.grow | with_reducible apply Bl.sd | with_reducible apply Bl.drewN | with_reducible apply Bl.drew))).mono ?_
            intro e Y3 hp
            obtain ⟨A5, c5, rfl, hc5, ho5, hb5⟩ := PT.out hp
            dsimp only at hc5 ho5 ⊢
            have hb5' : Bl Z Y3 := Bl.trans (by repeat (first | with_reducible exact Bl.refl _ | with_reducible apply Bl.alloc | with_reducible apply Bl.grow | with_reducible apply Bl.sd | with_reducible apply Bl.drewN | with_reducible apply Bl.drew)) hb5
            have HO5 := Hd.mk (And.intro (RdF.own (p := p11) (q := p12) ho5 HD.out.lt HE.out.lt) hc5)
            replace HGX := Hd.mk (And.intro (HGX.out.1.trans hb5') (Nat.le_trans HGX.out.2 hb5'.size))
            replace HE := Hd.mk (HE.out.bl hb5')
            replace HD := Hd.mk (HD.out.bl hb5')
            replace HQ := Hd.mk (And.intro (HQ.out.1.bl hb5') HQ.out.2)
            replace H14 := Hd.mk (H14.out.bl hb5')
            replace H15 := Hd.mk (H15.out.bl hb5')
            replace H16 := Hd.mk (H16.out.bl hb5')
            clear hp ho5 hb5 hb5' had1 HO HHown zD aD bD cD' dD zX aX bX cX dX eX fX
            obtain ⟨zD, aD, bD, cD', dD⟩ := HD.out
            go_upto_region 20 with fail
            generalize hS : World.setCell _ _ _ = S1
            have HSe := Hd.mk hS
            clear hS
            have HD1 : Hd (T3 S1 p11 nd len (.slice A5 own2.length c5)) := ⟨⟨by rw [← HSe.out]; simp [go_sem]; omega, by rw [← HSe.out]; go_simp, by rw [← HSe.out]; go_simp, by rw [← HSe.out]; go_simp, fun k => by rw [← HSe.out]; go_simp⟩⟩
            replace HE := Hd.mk (show T3 S1 p12 peer len (.slice A4 oth.length c4) from by rw [← HSe.out]; exact ((HE.out.set e9).set e9).set e9)
            replace HO5 := Hd.mk (show RdF S1 p11 p12 A5 own2 ∧ own2.length ≤ c5 from ⟨by rw [← HSe.out]; exact ((HO5.out.1.set (.inl rfl) _).set (.inl rfl) _).set (.inl rfl) _, HO5.out.2⟩)
            replace HQ := Hd.mk (show RdF S1 p11 p12 A4 oth ∧ oth.length ≤ c4 from ⟨by rw [← HSe.out]; exact ((HQ.out.1.set (.inl rfl) _).set (.inl rfl) _).set (.inl rfl) _, HQ.out.2⟩)
            replace H14 := Hd.mk (show T2 S1 q14 s o from by rw [← HSe.out]; exact ((H14.out.set e5).set e5).set e5)
            replace H15 := Hd.mk (show T6 S1 q15 ⟨s, o, 2, par, peer, -1⟩ from by rw [← HSe.out]; exact ((H15.out.set e1).set e1).set e1)
            replace H16 := Hd.mk (show T6 S1 q16 ⟨s, o, 2, !par, nd, -1⟩ from by rw [← HSe.out]; exact ((H16.out.set e3).set e3).set e3)
            replace HGX := Hd.mk (show Bl V S1 ∧ V1.heap.size ≤ S1.heap.size from ⟨by rw [← HSe.out]; exact Bl.setCell (Bl.setCell (Bl.setCell HGX.out.1 hN2) hN2) hN2, by rw [← HSe.out]; have := HGX.out.2; simp [go_sem]; omega⟩)
            clear HSe HD zD aD bD cD' dD
            obtain ⟨zE, aE, bE, cE, dE⟩ := HE.out
            obtain ⟨zX, aX, bX, cX, dX, eX, fX⟩ := H16.out
            dsimp only at aX bX cX dX eX fX
            have had2 := fun W (h : Bl S1 W) => tadd peer len A4 c4 oth ⟨s, o, 2, !par, nd, -1⟩ W (HQ.out.1.bl h).rd HQ.out.2
            rw [HHoth.out] at had2
            simp only [vT] at had2
            go_wp2_with fail
            refine (had2 _ (by repeat (first | with_reducible exact Bl.refl _ | with_reducible apply Bl.alloc | with_reducible apply Bl.grow | with_reducible apply Bl.sd | with_reducible apply Bl.drewN | with_reducible apply Bl.drew))).mono ?_
            intro e Y4 hp
            obtain ⟨A6, c6, rfl, hc6, ho6, hb6⟩ := PT.out hp
            dsimp only at hc6 ho6 ⊢
            have hb6' : Bl S1 Y4 := Bl.trans (by repeat (first | with_reducible exact Bl.refl _ | with_reducible apply Bl.alloc | with_reducible apply Bl.grow | with_reducible apply Bl.sd | with_reducible apply Bl.drewN | with_reducible apply Bl.drew)) hb6
            have HQ6 := Hd.mk (And.intro (RdF.own (p := p11) (q := p12) ho6 HD1.out.lt HE.out.lt) hc6)
            replace HGX := Hd.mk (And.intro (HGX.out.1.trans hb6') (Nat.le_trans HGX.out.2 hb6'.size))
            replace HE := Hd.mk (HE.out.bl hb6')
            replace HD1 := Hd.mk (HD1.out.bl hb6')
            replace HO5 := Hd.mk (And.intro (HO5.out.1.bl hb6') HO5.out.2)
            replace H14 := Hd.mk (H14.out.bl hb6')
            replace H15 := Hd.mk (H15.out.bl hb6')
            clear hp ho6 hb6 hb6' had2 HQ HHoth zE aE bE cE dE zX aX bX cX dX eX fX H16
            obtain ⟨zE, aE, bE, cE, dE⟩ := HE.out
            go_upto_region 21 with fail
            generalize hS : World.setCell _ _ _ = S2
            have HSe := Hd.mk hS
            clear hS
            have HE1 : Hd (T3 S2 p12 peer len (.slice A6 oth2.length c6)) := ⟨⟨by rw [← HSe.out]; simp [go_sem]; omega, by rw [← HSe.out]; go_simp, by rw [← HSe.out]; go_simp, by rw [← HSe.out]; go_simp, fun k => by rw [← HSe.out]; go_simp⟩⟩
            replace HD1 := Hd.mk (show T3 S2 p11 nd len (.slice A5 own2.length c5) from by rw [← HSe.out]; exact ((HD1.out.set hN1).set hN1).set hN1)
            replace HO5 := Hd.mk (show RdF S2 p11 p12 A5 own2 ∧ own2.length ≤ c5 from ⟨by rw [← HSe.out]; exact ((HO5.out.1.set (.inr rfl) _).set (.inr rfl) _).set (.inr rfl) _, HO5.out.2⟩)
            replace HQ6 := Hd.mk (show RdF S2 p11 p12 A6 oth2 ∧ oth2.length ≤ c6 from ⟨by rw [← HSe.out]; exact ((HQ6.out.1.set (.inr rfl) _).set (.inr rfl) _).set (.inr rfl) _, HQ6.out.2⟩)
            replace H14 := Hd.mk (show T2 S2 q14 s o from by rw [← HSe.out]; exact ((H14.out.set e6).set e6).set e6)
            replace H15 := Hd.mk (show T6 S2 q15 ⟨s, o, 2, par, peer, -1⟩ from by rw [← HSe.out]; exact ((H15.out.set e2).set e2).set e2)
            replace HGX := Hd.mk (show Bl V S2 ∧ V1.heap.size ≤ S2.heap.size from ⟨by rw [← HSe.out]; exact Bl.setCell (Bl.setCell (Bl.setCell HGX.out.1 hN3) hN3) hN3, by rw [← HSe.out]; have := HGX.out.2; simp [go_sem]; omega⟩)
            clear HSe HE zE aE bE cE dE
            obtain ⟨z_T, a_T, b_T, c_T, d_T⟩ := HT.out.bl HGX.out.1
            obtain ⟨zD, aD, bD, cD', dD⟩ := HD1.out
            obtain ⟨z_S, a_S, b_S⟩ := H14.out
            have hatc := fun W (h : Bl S2 W) => tat nd len A5 c5 own2 ((s : Int) + len) W (HO5.out.1.bl h).rd HO5.out.2
            rw [HHat.out] at hatc
            simp only [vT] at hatc
            have hwsl : IntKind.i64.wrap ((s : Int) + len) = (s : Int) + len := IntWalk.i64_in _ (by omega)
            go_wp2_with fail
            refine (hatc _ (by repeat (first | with_reducible exact Bl.refl _ | with_reducible apply Bl.alloc | with_reducible apply Bl.grow | with_reducible apply Bl.sd | with_reducible apply Bl.drewN | with_reducible apply Bl.drew))).mono ?_
            rintro e Y5 ⟨rfl, hb7⟩
            have hb7' : Bl S2 Y5 := Bl.trans (by repeat (first | with_reducible exact Bl.refl _ | with_reducible apply Bl.alloc | with_reducible apply Bl.grow | with_reducible apply Bl.sd | with_reducible apply Bl.drewN | with_reducible apply Bl.drew)) hb7
            replace HGX := Hd.mk (And.intro (HGX.out.1.trans hb7') (Nat.le_trans HGX.out.2 hb7'.size))
            replace HD1 := Hd.mk (HD1.out.bl hb7')
            replace HE1 := Hd.mk (HE1.out.bl hb7')
            replace HO5 := Hd.mk (And.intro (HO5.out.1.bl hb7') HO5.out.2)
            replace HQ6 := Hd.mk (And.intro (HQ6.out.1.bl hb7') HQ6.out.2)
            replace H14 := Hd.mk (H14.out.bl hb7')
            replace H15 := Hd.mk (H15.out.bl hb7')
            clear hb7 hb7' hatc hwsl z_T a_T b_T c_T d_T zD aD bD cD' dD z_S a_S b_S
            obtain ⟨zD, aD, bD, cD', dD⟩ := HD1.out
            obtain ⟨z_S, a_S, b_S⟩ := H14.out
            obtain ⟨zX, aX, bX, cX, dX, eX, fX⟩ := H15.out
            dsimp only at aX bX cX dX eX fX
            have heqx := fun W => eqt s s o o 2 2 par par peer peer (-1) (-1) W
            rw [(tcEq_iff _ _).2 rfl] at heqx
            have hg43 := guard43
            have hft2 := fun W (h : Bl Y5 W) => tfits nd len A5 c5 own2 (some ⟨fb, fo, none⟩) kc f s o W (HO5.out.1.bl h).rd HO5.out.2 (RdI.bl HFr.out (HB.out.trans (HGX.out.1.trans h))) hk
            rw [HHno.out] at hft2
            go_wp2_with (first | (go_at_call 30; (with_reducible refine (hft2 _ (by repeat (first | with_reducible exact Bl.refl _ | with_reducible apply Bl.alloc | with_reducible apply Bl.grow | with_reducible apply Bl.sd | with_reducible apply Bl.drewN | with_reducible apply Bl.drew))).mono ?_); rintro e w' ⟨rfl, hg⟩; obtain ⟨n, os, rfl⟩ := hg.out; clear hg))
            go_roundg (p.length - (k + 1))
            case measure => omega
            case rel =>
              refine ⟨k + 1, A5, c5, A6, c6, by omega, by omega, by go_num, ?_⟩
              rw [HOwn2.out, HOth2.out]
              exact ⟨⟨HD1.out.bl (by repeat (first | with_reducible exact Bl.refl _ | with_reducible apply Bl.alloc | with_reducible apply Bl.grow | with_reducible apply Bl.sd | with_reducible apply Bl.drewN | with_reducible apply Bl.drew))⟩, ⟨HE1.out.bl (by repeat (first | with_reducible exact Bl.refl _ | with_reducible apply Bl.alloc | with_reducible apply Bl.grow | with_reducible apply Bl.sd | with_reducible apply Bl.drewN | with_reducible apply Bl.drew))⟩, ⟨HO5.out.1.bl (by repeat (first | with_reducible exact Bl.refl _ | with_reducible apply Bl.alloc | with_reducible apply Bl.grow | with_reducible apply Bl.sd | with_reducible apply Bl.drewN | with_reducible apply Bl.drew)), HO5.out.2⟩, ⟨HQ6.out.1.bl (by repeat (first | with_reducible exact Bl.refl _ | with_reducible apply Bl.alloc | with_reducible apply Bl.grow | with_reducible apply Bl.sd | with_reducible apply Bl.drewN | with_reducible apply Bl.drew)), HQ6.out.2⟩, ⟨HGX.out.1.trans (by repeat (first | with_reducible exact Bl.refl _ | with_reducible apply Bl.alloc | with_reducible apply Bl.grow | with_reducible apply Bl.sd | with_reducible apply Bl.drewN | with_reducible apply Bl.drew)), by have := HGX.out.2; simp [go_sem]; omega⟩⟩
        · obtain rfl : k = p.length := by omega
          have hltz : ¬ ((p.length : Int) < (p.length : Int)) := by omega
          have hm1 := HFa.out.mir1
          have hm2 := HFa.out.mir2
          generalize addK l (cC peer p) p.length = own at *
          generalize addK [] (cD nd p) p.length = oth at *
          obtain ⟨zD, aD, bD, cD', dD⟩ := HD.out
          obtain ⟨zE, aE, bE, cE, dE⟩ := HE.out
          have hmA := fun W (h : Bl wr W) => tmirror nd len A3 c3 own peer len A4 c4 oth W (HO.out.1.bl h).rd HO.out.2 (HQ.out.1.bl h).rd HQ.out.2
          have hmB := fun W (h : Bl wr W) => tmirror peer len A4 c4 oth nd len A3 c3 own W (HQ.out.1.bl h).rd HQ.out.2 (HO.out.1.bl h).rd HO.out.2
          rw [hm1] at hmA
          rw [hm2] at hmB
          clear hm1 hm2
          go_wp2_with fail
          refine (hmA _ (by repeat (first | with_reducible exact Bl.refl _ | with_reducible apply Bl.alloc | with_reducible apply Bl.grow | with_reducible apply Bl.sd | with_reducible apply Bl.drewN | with_reducible apply Bl.drew))).mono ?_
          rintro e Y3 ⟨rfl, hb3⟩
          have hb3' : Bl wr Y3 := Bl.trans (by repeat (first | with_reducible exact Bl.refl _ | with_reducible apply Bl.alloc | with_reducible apply Bl.grow | with_reducible apply Bl.sd | with_reducible apply Bl.drewN | with_reducible apply Bl.drew)) hb3
          have HB3 := Hd.mk hb3'
          clear zD aD bD cD' dD zE aE bE cE dE hb3 hb3'
          obtain ⟨zD, aD, bD, cD', dD⟩ := HD.out.bl HB3.out
          obtain ⟨zE, aE, bE, cE, dE⟩ := HE.out.bl HB3.out
          go_wp2_with fail
          refine (hmB _ (HB3.out.trans (by repeat (first | with_reducible exact Bl.refl _ | with_reducible apply Bl.alloc | with_reducible apply Bl.grow | with_reducible apply Bl.sd | with_reducible apply Bl.drewN | with_reducible apply Bl.drew)))).mono ?_
          rintro e Y4 ⟨rfl, hb4⟩
          have HB4 := Hd.mk (HB3.out.trans (Bl.trans (by repeat (first | with_reducible exact Bl.refl _ | with_reducible apply Bl.alloc | with_reducible apply Bl.grow | with_reducible apply Bl.sd | with_reducible apply Bl.drewN | with_reducible apply Bl.drew)) hb4))
          clear hb4
          go_wp2
          go_ret
          exact ⟨ret_bool (by simp), HB.out.trans (HG.out.1.trans (HB4.out.trans (by repeat (first | with_reducible exact Bl.refl _ | with_reducible apply Bl.alloc | with_reducible apply Bl.grow | with_reducible apply Bl.sd | with_reducible apply Bl.drewN | with_reducible apply Bl.drew))))⟩
theorem lawFree (nd len : Int) (A : Option Addr) (c : Nat) (l : List TC) (C : Option Addr) (kc : Nat) (f : List Int) (nn peer : Int) (w : World) (hr : Rd w A l) (hc : l.length ≤ c) (hf : RdI w C f) (hk : f.length ≤ kc) (hn0 : 0 ≤ nn) (hn1 : nn ≤ 255) :
    Calls Try.prog 10 #[.agg #[.int .i64 nd, .int .i64 len, .slice A l.length c], .slice C f.length kc, .int .u8 nn, .int .i64 peer] w fun e w' => e = .returned (.bool true) ∧ Bl w w' := by
  by_cases h : fewT len l.length = true ∧ ¬ (64 : Int) < (f.length : Int) ∧ checkT nd len l = 0 ∧ ¬ peer < 0 ∧ ¬ 32 ≤ peer ∧ ¬ peer = nd ∧ betS nd len l peer = []
  · exact lawFree_main nd len A c l C kc f nn peer w hr hc hf hk hn0 hn1 h
  · exact lawFree_early nd len A c l C kc f nn peer w hr hc hf hk hn0 hn1 h
end Go.Proofs.Ytcknakbjiklklaa.L
