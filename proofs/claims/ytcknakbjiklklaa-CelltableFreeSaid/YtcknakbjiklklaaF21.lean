import Derived.Test.YtcknakbjiklklaaF8
import Derived.Test.YtcknakbjiklklaaF10
/- slices.DeleteFunc on a list of the call's own. -/
namespace Go.Proofs.Ytcknakbjiklklaa.F
open Go.RowKit Go.Sort Go.Proofs.Ytcknakbjiklklaa.B Go.Proofs.Ytcknakbjiklklaa.S
set_option linter.unusedVariables false
set_option linter.unusedSimpArgs false
theorem Ow.set6 {w : World} {base g cap : Nat} {l : List TC} (h : Ow w base (.slice (some ⟨g, 0, none⟩) l.length cap) l) {i : Nat} (hi : i < l.length) (x : TC) :
    Ow ((((((w.setCell ⟨g, i * 6, none⟩ (.int .i64 x.sl)).setCell ⟨g, i * 6 + 1, none⟩ (.int .i64 x.off)).setCell ⟨g, i * 6 + 2, none⟩ (.int .i64 x.ki)).setCell ⟨g, i * 6 + 3, none⟩ (.bool x.se)).setCell ⟨g, i * 6 + 4, none⟩ (.int .i64 x.pe)).setCell ⟨g, i * 6 + 5, none⟩ (.int .i64 x.fl)) base (.slice (some ⟨g, 0, none⟩) l.length cap) (l.set i x) := by
  have h1 := (World.ownsRow.stored h (i * 6) (.int .i64 x.sl)).1
  have h2 := (World.ownsRow.stored h1 (i * 6 + 1) (.int .i64 x.off)).1
  have h3 := (World.ownsRow.stored h2 (i * 6 + 2) (.int .i64 x.ki)).1
  have h4 := (World.ownsRow.stored h3 (i * 6 + 3) (.bool x.se)).1
  have h5 := (World.ownsRow.stored h4 (i * 6 + 4) (.int .i64 x.pe)).1
  have h6 := (World.ownsRow.stored h5 (i * 6 + 5) (.int .i64 x.fl)).1
  rw [← tcsC_set x l i hi] at h6
  unfold Ow
  rw [List.length_set]
  exact h6
theorem run_clear_k (w : World) (g o n c : Nat) (cur : Array Value) (hn : 0 < n) (hg : w.heap[g]? = some (.cells cur 43 (0, 0))) (hfit : o + n * 6 ≤ cur.size) :
    ∃ zs : List Value, zs.length = n * 6 ∧ ∀ ty, (Builtin.clear_ #[22] ty #[.slice (some ⟨g, o, none⟩) n c]).run Try.prog w = .ok (.tuple #[]) (w.setRow g (cur.toList.take o ++ zs ++ cur.toList.drop (o + zs.length)).toArray) := by
  obtain ⟨i0, hi, hz0, hz1, hz2⟩ := info_of infoE
  generalize hZ : (Builtin.zeroCells (Value.cells (.agg #[.int .i64 0, .int .i64 0, .int .i64 0, .bool false, .int .i64 0, .int .i64 0])) n).toList = Z
  have hl : Z.length = n * 6 := by rw [← hZ]; simp [Builtin.zeroCells, Value.cells]
  have h1 : ∀ v ∈ Z, v.oneCell' = true := by
    intro v hv
    rw [← hZ] at hv
    simp only [Builtin.zeroCells, Value.cells, Array.toList_map, List.mem_map] at hv
    obtain ⟨i, _, rfl⟩ := hv
    have h6 : i % 6 < 6 := Nat.mod_lt _ (by omega)
    show (#[_, _, _, _, _, _][i % 6]! : Value).oneCell' = true
    generalize i % 6 = q at *
    match q, h6 with
    | 0, _ => rfl
    | 1, _ => rfl
    | 2, _ => rfl
    | 3, _ => rfl
    | 4, _ => rfl
    | 5, _ => rfl
  have hst := run_storeCells_at Try.prog g o 43 Z 0 cur w hg (by rw [Nat.add_zero, hl]; exact hfit) h1
  obtain ⟨m, rfl⟩ : ∃ m, n = m + 1 := ⟨n - 1, by omega⟩
  rw [Nat.add_zero] at hst
  refine ⟨Z, hl, fun ty => ?_⟩
  simp [Builtin.clear_, run_underlying Try.underlying22, zeroValue, typeInfo, hi, hz0, hZ, hst]
theorem wpList_clear_run {P : Program} (w : World) {ops : Array Oper} {rest : List Oper} {o : Oper} {a : Act} {Q : Exit → Act → World → Prop} (hgd : o.guard = none) (d : Operand) (t : TypeId)
    (ho : o.op = .call { callee := .builtin .clear, args := #[d], argTypes := #[t] }) (v : Value) (hd : a.eval d = v) {v' : Value} {w' : World}
    (hr : (Builtin.clear_ #[t] o.type #[v]).run P w = .ok v' w') (h : wpList P ops Q rest (a.put o.dst v') w') : wpList P ops Q (o :: rest) a w := by
  refine wpList_plain hgd fun K hK => ?_
  unfold Oper.wp execOp
  simp only [ho, resolve, invoke, builtin, Sem.run_bind, Sem.run_pure, Result.andThen_ok, List.map_toArray, List.map_cons, List.map_nil, hd, hr]
  exact hK _ _ h
def keepL (p : TC → Bool) (l : List TC) : List TC := l.filter fun x => !p x
theorem keep_none {p : TC → Bool} {l : List TC} (h : ∀ x ∈ l, p x = false) : keepL p l = l := by
  unfold keepL
  rw [List.filter_eq_self]
  intro x hx
  simp [h x hx]
theorem keep_snoc (p : TC → Bool) (l : List TC) (k : Nat) (h : k < l.length) : keepL p (l.take (k + 1)) = keepL p (l.take k) ++ if p (nth l k) = true then [] else [nth l k] := by
  unfold keepL
  rw [List.take_succ_eq_append_getElem h, List.filter_append, ← nth_eq l k h]
  cases hq : p (nth l k) <;> simp [hq]
/-- What lies below b stands. -/
def Bb (b : Nat) (w W : World) : Prop := Below b w W ∧ b ≤ W.heap.size
theorem Bb.bl {b : Nat} {w W X : World} (h : Bb b w W) (hb : Bl W X) : Bb b w X := by
  obtain ⟨⟨h1, h2, h3, h4, h5⟩, h6⟩ := h
  exact ⟨⟨hb.os.trans h1, hb.tape.trans h2, hb.output.trans h3, Nat.le_trans h4 hb.size, fun k hk => (hb.block k (by omega)).trans (h5 k hk)⟩, Nat.le_trans h6 hb.size⟩
theorem Bb.set {b : Nat} {w W : World} (h : Bb b w W) {g o : Nat} {v : Value} (hg : b ≤ g) : Bb b w (W.setCell ⟨g, o, none⟩ v) := ⟨Below.setCell h.1 hg _, by have := h.2; simpa using this⟩
theorem Bb.row {b : Nat} {w W : World} (h : Bb b w W) {g : Nat} {cs : Array Value} (hg : b ≤ g) : Bb b w (W.setRow g cs) := by
  obtain ⟨⟨h1, h2, h3, h4, h5⟩, h6⟩ := h
  exact ⟨⟨h1, h2, h3, by simpa [World.setRow] using h4, fun k hk => (setRow_other W g k cs (by omega)).trans (h5 k hk)⟩, by simpa [World.setRow] using h6⟩
theorem Ow.at_ {w : World} {base gb n cap : Nat} {l : List TC} (h : Ow w base (.slice (some ⟨gb, 0, none⟩) n cap) l) {i : Nat} (hi : i < l.length) : gb < w.heap.size ∧ (∀ k, w.frozen? ⟨gb, k, none⟩ = false) ∧ C43 w gb (i * 6) (nth l i) := by
  obtain ⟨g1, cap1, e1, _, hgr, _, _, hfz, hc⟩ := h.form hi
  simp only [Value.slice.injEq, Option.some.injEq, Addr.mk.injEq, and_true] at e1
  obtain ⟨rfl, _⟩ := e1
  exact ⟨hgr, hfz, hc⟩
/-- Where the deleting stands: i elements kept of the first j; the row holds rl. -/
structure DelAt (p : TC → Bool) (l rl : List TC) (i j : Nat) : Prop where
  len : rl.length = l.length
  lt : i < j
  le : j ≤ l.length
  head : rl.take i = keepL p (l.take j)
  tail : rl.drop j = l.drop j
theorem DelAt.at_ {p : TC → Bool} {l rl : List TC} {i j : Nat} (h : DelAt p l rl i j) (hj : j < l.length) : nth rl j = nth l j := by
  have e := h.tail
  rw [drop_at l j hj, drop_at rl j (by rw [h.len]; exact hj)] at e
  injection e
theorem DelAt.skip {p : TC → Bool} {l rl : List TC} {i j : Nat} (h : DelAt p l rl i j) (hj : j < l.length) (hp : p (nth l j) = true) : DelAt p l rl i (j + 1) := by
  refine ⟨h.len, by have := h.lt; omega, hj, ?_, ?_⟩
  · rw [keep_snoc p l j hj, hp, if_pos rfl, List.append_nil]; exact h.head
  · have := congrArg (List.drop 1) h.tail
    simpa [List.drop_drop] using this
theorem DelAt.keep {p : TC → Bool} {l rl : List TC} {i j : Nat} (h : DelAt p l rl i j) (hj : j < l.length) (hp : p (nth l j) = false) : DelAt p l (rl.set i (nth l j)) (i + 1) (j + 1) := by
  have hlt := h.lt
  have hl := h.len
  refine ⟨by simpa using hl, by omega, hj, ?_, ?_⟩
  · rw [keep_snoc p l j hj, hp, if_neg (by decide), ← h.head, List.take_succ_eq_append_getElem (by simp; omega), List.getElem_set_self, List.take_set, List.set_eq_of_length_le (by simp; omega)]
  · rw [List.drop_set, if_pos (by omega)]
    have := congrArg (List.drop 1) h.tail
    simpa [List.drop_drop] using this
theorem del_step {w wr : World} {base gb N cap i : Nat} {rl : List TC} (hB : Bb base w wr) (hO : Ow wr base (.slice (some ⟨gb, 0, none⟩) N cap) rl) (hrl : rl.length = N) (hi : i < N) (hbg : base ≤ gb) (x0 x1 x2 x4 x5 : Int) (x3 : Bool) (X : World)
    (h : Bl ((((((wr.setCell ⟨gb, i * 6, none⟩ (.int .i64 x0)).setCell ⟨gb, i * 6 + 1, none⟩ (.int .i64 x1)).setCell ⟨gb, i * 6 + 2, none⟩ (.int .i64 x2)).setCell ⟨gb, i * 6 + 3, none⟩ (.bool x3)).setCell ⟨gb, i * 6 + 4, none⟩ (.int .i64 x4)).setCell ⟨gb, i * 6 + 5, none⟩ (.int .i64 x5)) X) :
    Ow X base (.slice (some ⟨gb, 0, none⟩) N cap) (rl.set i ⟨x0, x1, x2, x3, x4, x5⟩) ∧ Bb base w X := by
  subst hrl
  exact ⟨(Ow.set6 hO hi ⟨x0, x1, x2, x3, x4, x5⟩).bl h, ((((((hB.set hbg).set hbg).set hbg).set hbg).set hbg).set hbg).bl h⟩
set_option maxHeartbeats 4000000 in
set_option maxRecDepth 100000 in
theorem tdelf (g : FuncId) (lb : Array Value) (eg : ∀ args W, (callFunc g args).run Try.prog W = .ok (.enter g args) W) (p : TC → Bool) (base : Nat) (v : Value) (l : List TC) (w : World) (hown : Ow w base v l) (hn : l.length ≤ 1000000) (hb : base ≤ w.heap.size)
    (hp : ∀ x X, Bb base w X → Calls Try.prog g (#[vT x] ++ lb) X fun e X' => e = .returned (.bool (p x)) ∧ Gr X X') :
    Calls Try.prog 61 #[v, .func (.func g) #[] lb] w fun e w' => ∃ v', e = .returned v' ∧ Ow w' base v' (keepL p l) ∧ Bb base w w' := by
  have hw0 : Bb base w w := ⟨Below.refl _ _, hb⟩
  have hI := fun (A : Option Addr) (c : Nat) (hr : Rd w A l) (hc : l.length ≤ c) => tindexf g lb eg p A c l w hr hc (fun x X hX => hp x X (hw0.bl hX.bl))
  rcases idxF_spec p l 0 with ⟨ei, hall⟩ | ⟨j0, hj0, ei, hpj, hbef⟩
  · obtain ⟨A, c, rfl, hc, hr⟩ := hown.rd
    have hi := hI A c hr hc
    rw [ei] at hi
    have HO := Hd.mk hown
    have HK := Hd.mk (keep_none hall)
    clear hI hp hr ei hall hown
    go_enter Try.func61, Try.ntmps61
    go_wp2_with (go_at_call 77; (with_reducible refine hi.mono ?_); rintro e w' ⟨rfl, hg⟩; obtain ⟨n, os, rfl⟩ := hg.out; clear hg)
    go_ret
    exact ⟨_, rfl, by rw [HK.out]; exact HO.out.bl (by repeat (first | exact Bl.refl _ | with_reducible apply Bl.alloc | with_reducible apply Bl.grow | with_reducible apply Bl.sd | with_reducible apply Bl.drewN | with_reducible apply Bl.drew)), hw0.bl (by repeat (first | exact Bl.refl _ | with_reducible apply Bl.alloc | with_reducible apply Bl.grow | with_reducible apply Bl.sd | with_reducible apply Bl.drewN | with_reducible apply Bl.drew))⟩
  · obtain ⟨gb, cap, rfl, hgb, hgw, hcap, hcm, _, _⟩ := hown.form hj0
    obtain ⟨A, c, e1, hc, hr⟩ := hown.rd
    simp only [Value.slice.injEq, true_and] at e1
    obtain ⟨rfl, rfl⟩ := e1
    have hi := hI _ _ hr hc
    rw [ei, Nat.zero_add] at hi
    have HP := Hd.mk hp
    have HO := Hd.mk hown
    have hstart : keepL p (l.take (j0 + 1)) = l.take j0 := by
      rw [keep_snoc p l j0 hj0, hpj, if_pos rfl, List.append_nil]
      apply keep_none
      intro x hx
      obtain ⟨i, hi, rfl⟩ := List.getElem_of_mem hx
      rw [List.length_take] at hi
      have := hbef i (by omega)
      rw [nth_eq l i (by omega)] at this
      simpa using this
    have HStart := Hd.mk hstart
    generalize hN : l.length = N at *
    have HN := Hd.mk hN
    clear hI hp hr ei hown hstart hN hpj hbef hc
    have hjz : ¬ ((j0 : Int) = -1) := by omega
    have hjz2 : ((j0 : Int) == -1) = false := beq_eq_false_iff_ne.2 (by omega)
    go_enter Try.func61, Try.ntmps61
    go_wp2_with (go_at_call 77; (with_reducible refine hi.mono ?_); rintro e w' ⟨rfl, hg⟩; obtain ⟨n, os, rfl⟩ := hg.out; clear hg)
    go_loopg [5, 6, 7] N (fun gg s5 s6 s7 wr => ∃ (i j : Nat) (rl : List TC), s5 = .int .i64 i ∧ s6 = .int .i64 j ∧ i < j ∧ j ≤ N ∧ N - j ≤ gg ∧ Hd (Ow wr base (.slice (some ⟨gb, 0, none⟩) N cap) rl) ∧ Hd (DelAt p l rl i j) ∧ Hd (Bb base w wr))
    case atStart => exact ⟨j0, j0 + 1, l, rfl, by go_num, by omega, by omega, by omega, ⟨HO.out.bl (by repeat (first | exact Bl.refl _ | with_reducible apply Bl.alloc | with_reducible apply Bl.grow | with_reducible apply Bl.sd | with_reducible apply Bl.drewN | with_reducible apply Bl.drew))⟩, ⟨⟨rfl, by omega, by rw [HN.out]; omega, HStart.out.symm, rfl⟩⟩, ⟨hw0.bl (by repeat (first | exact Bl.refl _ | with_reducible apply Bl.alloc | with_reducible apply Bl.grow | with_reducible apply Bl.sd | with_reducible apply Bl.drewN | with_reducible apply Bl.drew))⟩⟩
    case round =>
      obtain ⟨i, j, rl, rfl, rfl, hij, hjN, hg, HO2, HD, HB⟩ := hrel
      clear hi HO HStart
      by_cases hlt : j < N
      · have hjl : j < l.length := by rw [HN.out]; exact hlt
        have hrl : rl.length = N := HD.out.len.trans HN.out
        obtain ⟨hgr, hfz, m0, m1, m2, m3, m4, m5⟩ := HO2.out.at_ (i := j) (by omega)
        obtain ⟨_, _, n0, n1, n2, n3, n4, n5⟩ := HO2.out.at_ (i := i) (by omega)
        have hat := HD.out.at_ hjl
        have hsk := HD.out.skip hjl
        have hke := HD.out.keep hjl
        rw [hat] at m0 m1 m2 m3 m4 m5
        have HRl := Hd.mk hrl
        have HSk := Hd.mk hsk
        have HKe := Hd.mk hke
        have hcall := HP.out (nth l j)
        have hltz : (j : Int) < (N : Int) := by omega
        have hiN : (i : Int) < (N : Int) := by omega
        have hiN' : i < N := by omega
        have hbg : base ≤ gb := hgb
        clear hat hsk hke hrl
        generalize nth l j = x at *
        generalize nth rl i = y at *
        obtain ⟨x0, x1, x2, x3, x4, x5⟩ := x
        obtain ⟨y0, y1, y2, y3, y4, y5⟩ := y
        simp only [vT] at *
        generalize hq : p ⟨x0, x1, x2, x3, x4, x5⟩ = q at *
        have HQ := Hd.mk hq
        clear hq
        cases q with
        | true =>
          go_wp2_with (go_at_fn g; (with_reducible refine (hcall _ (HB.out.bl (by repeat (first | exact Bl.refl _ | with_reducible apply Bl.alloc | with_reducible apply Bl.grow | with_reducible apply Bl.sd | with_reducible apply Bl.drewN | with_reducible apply Bl.drew)))).mono ?_); rintro e w' ⟨rfl, hg⟩; obtain ⟨n, os, rfl⟩ := hg.out; clear hg)
          go_roundg (N - (j + 1))
          case measure => omega
          case rel => exact ⟨i, j + 1, rl, rfl, by go_num, by omega, by omega, by omega, ⟨HO2.out.bl (by repeat (first | exact Bl.refl _ | with_reducible apply Bl.alloc | with_reducible apply Bl.grow | with_reducible apply Bl.sd | with_reducible apply Bl.drewN | with_reducible apply Bl.drew))⟩, ⟨HSk.out (by simp)⟩, ⟨HB.out.bl (by repeat (first | exact Bl.refl _ | with_reducible apply Bl.alloc | with_reducible apply Bl.grow | with_reducible apply Bl.sd | with_reducible apply Bl.drewN | with_reducible apply Bl.drew))⟩⟩
        | false =>
          go_wp2_with (go_at_fn g; (with_reducible refine (hcall _ (HB.out.bl (by repeat (first | exact Bl.refl _ | with_reducible apply Bl.alloc | with_reducible apply Bl.grow | with_reducible apply Bl.sd | with_reducible apply Bl.drewN | with_reducible apply Bl.drew)))).mono ?_); rintro e w' ⟨rfl, hg⟩; obtain ⟨n, os, rfl⟩ := hg.out; clear hg)
          have key := del_step HB.out HO2.out HRl.out hiN' hbg x0 x1 x2 x4 x5 x3
          go_roundg (N - (j + 1))
          case measure => omega
          case rel => exact ⟨i + 1, j + 1, rl.set i ⟨x0, x1, x2, x3, x4, x5⟩, by go_num, by go_num, by omega, by omega, by omega, ⟨(key _ (by repeat (first | with_reducible exact Bl.refl _ | with_reducible apply Bl.alloc | with_reducible apply Bl.grow | with_reducible apply Bl.sd | with_reducible apply Bl.drewN | with_reducible apply Bl.drew))).1⟩, ⟨HKe.out (by simp)⟩, ⟨(key _ (by repeat (first | with_reducible exact Bl.refl _ | with_reducible apply Bl.alloc | with_reducible apply Bl.grow | with_reducible apply Bl.sd | with_reducible apply Bl.drewN | with_reducible apply Bl.drew))).2⟩⟩
      · obtain rfl : j = N := by omega
        have hrl : rl.length = j := HD.out.len.trans HN.out
        have hhd := HD.out.head
        rw [show l.take j = l from List.take_of_length_le (by rw [HN.out]; exact Nat.le_refl _)] at hhd
        have h2 := HO2.out.2
        rcases h2 with ⟨e, _⟩ | ⟨g1, cap1, cur, e, hg1, hh, hnc, hmx, hcs, htk⟩
        · simp at e
        · simp only [Value.slice.injEq, Option.some.injEq, Addr.mk.injEq, and_true] at e
          obtain ⟨rfl, hjr, rfl⟩ := e
          clear hjr
          have h6 : rl.length * 6 ≤ cap * 6 := Nat.mul_le_mul_right 6 hnc
          obtain ⟨zs, hzl, hcl⟩ : ∃ zs : List Value, zs.length = (j - i) * 6 ∧ ∀ ty, (Builtin.clear_ #[22] ty #[.slice (some ⟨gb, i * 6, none⟩) (j - i) (cap - i)]).run Try.prog wr = .ok (.tuple #[]) (wr.setRow gb (cur.toList.take (i * 6) ++ zs ++ cur.toList.drop (i * 6 + zs.length)).toArray) := by
            exact run_clear_k wr gb (i * 6) (j - i) (cap - i) cur (by omega) hh (by omega)
          have hlen : (cur.toList.take (i * 6) ++ zs ++ cur.toList.drop (i * 6 + zs.length)).length = cap * 6 := by
            simp only [List.length_append, List.length_take, List.length_drop, hzl, Array.length_toList, hcs]
            omega
          have hhead : (cur.toList.take (i * 6) ++ zs ++ cur.toList.drop (i * 6 + zs.length)).take (i * 6) = tcsC (keepL p l) := by
            have hti : (cur.toList.take (i * 6)).length = i * 6 := by simp only [List.length_take, Array.length_toList, hcs]; omega
            rw [List.append_assoc, List.take_append_of_le_length (by omega), List.take_of_length_le (by omega), ← hhd, ← tcsC_take, ← htk, List.take_take]
            congr 1; omega
          have hki : (keepL p l).length = i := by rw [← hhd, List.length_take]; omega
          generalize cur.toList.take (i * 6) ++ zs ++ cur.toList.drop (i * 6 + zs.length) = R at *
          have hfin : Ow (wr.setRow gb R.toArray) base (.slice (some ⟨gb, 0, none⟩) i cap) (keepL p l) := by
            unfold Ow
            rw [hki]
            exact ownsRow_of hg1 (setRow_heap wr gb cur R.toArray 43 _ hh) (by omega) hmx hlen hhead
          have HFin := Hd.mk hfin
          have HBf := Hd.mk (HB.out.row (cs := R.toArray) hg1)
          have hcz : ¬ (cap = i) := by omega
          have hiz : (0 : Int) ≤ (i : Int) := by omega
          have hijz : (i : Int) ≤ (j : Int) := by omega
          have hltz : ¬ ((j : Int) < (j : Int)) := by omega
          have hicz : (i : Int) ≤ (cap : Int) := by omega
          have hije : i ≤ j := by omega
          clear hrl hhd htk hh hcs hzl hlen hhead hki hfin HO2 HD HP HN h6 hnc
          go_wp2_with (refine wpList_clear_run _ (o := ⟨none, _, _, _, _, _⟩) rfl (.tmp 38) 22 rfl _ rfl (hcl _) ?_)
          go_ret
          exact ⟨_, rfl, HFin.out, HBf.out⟩
end Go.Proofs.Ytcknakbjiklklaa.F
