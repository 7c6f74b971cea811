import Derived.Test.YtcknakbjiklklaaI0
/- slices.Insert of one element into a row of the call's own. -/
namespace Go.Proofs.Ytcknakbjiklklaa.B
open Go.RowKit Go.Sort
set_option linter.unusedVariables false
set_option linter.unusedSimpArgs false
set_option maxRecDepth 100000 in
/-- At the end, or into nothing. -/
theorem insert_end (base : Nat) (v : Value) (n : Nat) (cs vs : List Value) (vb : Nat) (w : World) (hown : w.ownsRow base 43 6 v n cs) (hn : n ≤ 1000000) (hv : w.heap[vb]? = some (.cells vs.toArray 43 (0, 0))) (hvl : vs.length = 6) (h1v : ∀ u ∈ vs, u.oneCell' = true) (hb : base ≤ w.heap.size) :
    Calls Try.prog 50 #[v, .int .i64 n, .slice (some ⟨vb, 0, none⟩) 1 1] w fun e w' => ∃ v', e = .returned v' ∧ w'.ownsRow base 43 6 v' (n + 1) (cs ++ vs) ∧ w.grownBy w' v.ownBlock := by
  obtain ⟨i0, hi, hz0, hz1, hz2⟩ := info_of infoE
  obtain ⟨A, c, rfl⟩ : ∃ A c, v = .slice A n c := by
    rcases hown.2 with ⟨rfl, rfl⟩ | ⟨g, cap, _, rfl, _⟩
    · exact ⟨_, _, rfl⟩
    · exact ⟨_, _, rfl⟩
  have hnews : ∀ j u, vs[j]? = some u → w.cell? ((⟨vb, 0, none⟩ : Addr).add j) = some u := World.news_of_block (cs := vs.toArray) hv
  have HO := Hd.mk hown
  have HN := Hd.mk hnews
  clear hown hnews hv
  go_enter Try.func50, Try.ntmps50
  go_wp2_with (at_builtin; refine wpList_append_own_at _ rfl _ _ 22 rfl base 43 i0 _ 6 48 Try.underlying22 hi hz0 hz1 hz2 rfl (by decide) _ n cs rfl HO.out _ _ _ vs rfl (by omega) HN.out h1v (by simp only [maxLen]; omega) (by omega) hb ?_)
  all_goals
    intro v1 w1 hown1 hgr1 _ _
    have HO1 := Hd.mk hown1
    have HG1 := Hd.mk hgr1
    clear hown1 hgr1
    go_wp2
    go_ret
    exact ⟨_, rfl, HO1.out, by cases A <;> exact HG1.out⟩
theorem take_le_mem {xs : List Value} {k : Nat} {P : Value → Prop} (h : ∀ u ∈ xs, P u) : ∀ u ∈ xs.drop k, P u := fun u hu => h u (List.mem_of_mem_drop hu)
/-- The cells of a row, read. -/
theorem row_cells {w : World} {g : Nat} {cur : Array Value} {t : TypeId} {m o : Nat} {cs : List Value} (hc : w.heap[g]? = some (.cells cur t (0, 0))) (h : (cur.toList.take m) = cs) : ∀ j u, (cs.drop o)[j]? = some u → w.cell? ((⟨g, o, none⟩ : Addr).add j) = some u := by
  intro j u hj
  subst h
  rw [Addr.add_lit, cell_of_row w g (o + j) cur t (0, 0) hc]
  rw [List.getElem?_drop, List.getElem?_take] at hj
  split at hj
  · simpa using hj
  · cases hj
/-- What lies in a row behind the two copies. -/
theorem shifted (cur cs vs : List Value) (i n : Nat) (h : cur.take (n * 6) = cs) (hl : (n + 1) * 6 ≤ cur.length) (hv : vs.length = 6) (hi : i < n) :
    let R1 := cur.take ((i + 1) * 6) ++ cs.drop (i * 6) ++ cur.drop ((i + 1) * 6 + (cs.drop (i * 6)).length)
    ((R1.take (i * 6) ++ vs ++ R1.drop (i * 6 + vs.length)).take ((n + 1) * 6) = cs.take (i * 6) ++ vs ++ cs.drop (i * 6)) ∧ (R1.take (i * 6) ++ vs ++ R1.drop (i * 6 + vs.length)).length = cur.length ∧ R1.length = cur.length := by
  have hcl : cs.length = n * 6 := by rw [← h, List.length_take]; omega
  have hdl : (cs.drop (i * 6)).length = n * 6 - i * 6 := by rw [List.length_drop, hcl]
  intro R1
  have hR : R1.length = cur.length := by
    show (cur.take ((i + 1) * 6) ++ cs.drop (i * 6) ++ cur.drop ((i + 1) * 6 + (cs.drop (i * 6)).length)).length = cur.length
    simp only [List.length_append, List.length_take, List.length_drop, hcl]
    omega
  refine ⟨?_, ?_, hR⟩
  · have e1 : R1.take (i * 6) = cs.take (i * 6) := by
      show (cur.take ((i + 1) * 6) ++ cs.drop (i * 6) ++ cur.drop ((i + 1) * 6 + (cs.drop (i * 6)).length)).take (i * 6) = _
      rw [List.append_assoc, List.take_append_of_le_length (by simp only [List.length_take]; omega), List.take_take, ← h, List.take_take]
      congr 1; omega
    have e2 : (R1.drop (i * 6 + vs.length)).take ((n - i) * 6) = cs.drop (i * 6) := by
      show ((cur.take ((i + 1) * 6) ++ cs.drop (i * 6) ++ cur.drop ((i + 1) * 6 + (cs.drop (i * 6)).length)).drop (i * 6 + vs.length)).take ((n - i) * 6) = _
      rw [show i * 6 + vs.length = (cur.take ((i + 1) * 6)).length by simp only [List.length_take]; omega, List.append_assoc, List.drop_left,
        show (n - i) * 6 = (cs.drop (i * 6)).length by rw [hdl]; omega, List.take_left]
    rw [e1, List.append_assoc, List.append_assoc, List.take_append, List.take_of_length_le (by simp only [List.length_take]; omega), List.length_take, hcl]
    congr 1
    rw [List.take_append, List.take_of_length_le (by omega), hv]
    congr 1
    rw [show (n + 1) * 6 - min (i * 6) (n * 6) - 6 = (n - i) * 6 by omega]
    rw [hv] at e2
    exact e2
  · simp only [List.length_append, List.length_take, List.length_drop, hR]
    omega
theorem ownsRow_of {w : World} {base g cap n : Nat} {e : TypeId} {cur xs : List Value} (hg : base ≤ g) (hc : w.heap[g]? = some (.cells cur.toArray e (0, 0))) (hn : n ≤ cap) (hm : cap ≤ maxLen) (hs : cur.length = cap * 6) (h : cur.take (n * 6) = xs) :
    w.ownsRow base e 6 (.slice (some ⟨g, 0, none⟩) n cap) n xs := by
  have hle : n * 6 ≤ cap * 6 := Nat.mul_le_mul_right 6 hn
  exact ⟨by rw [← h, List.length_take]; omega, .inr ⟨g, cap, cur.toArray, rfl, hg, hc, hn, hm, by simpa using hs, by simpa using h⟩⟩
theorem grown_setRow (w : World) (g : Nat) (c : Array Value) : w.grownBy (w.setRow g c) (some g) := ⟨rfl, rfl, rfl, by simp [World.setRow], fun k _ hne => setRow_other w g k c (fun e => hne (by rw [e]))⟩
set_option maxRecDepth 100000 in
set_option maxHeartbeats 4000000 in
/-- In between, with room: in place. -/
theorem insert_shift (base g cap n i : Nat) (cur : List Value) (cs vs : List Value) (vb : Nat) (w : World) (hg : base ≤ g) (hc : w.heap[g]? = some (.cells cur.toArray 43 (0, 0))) (hcap : n + 1 ≤ cap) (hm : cap ≤ maxLen) (hs : cur.length = cap * 6) (hcs : cur.take (n * 6) = cs) (hi' : i < n)
    (hn : n ≤ 1000000) (hv : w.heap[vb]? = some (.cells vs.toArray 43 (0, 0))) (hvl : vs.length = 6) (h1v : ∀ u ∈ vs, u.oneCell' = true) (h1c : ∀ u ∈ cs, u.oneCell' = true) (hvb : vb ≠ g) :
    Calls Try.prog 50 #[.slice (some ⟨g, 0, none⟩) n cap, .int .i64 i, .slice (some ⟨vb, 0, none⟩) 1 1] w fun e w' => ∃ v', e = .returned v' ∧ w'.ownsRow base 43 6 v' (n + 1) (cs.take (i * 6) ++ vs ++ cs.drop (i * 6)) ∧ w.grownBy w' (some g) := by
  have hov := fun lb cb o => overlaps_apart w vb g lb cb o vs.toArray cur.toArray 43 43 hv hc hvb (by simp; intro h; rw [h] at hs; simp at hs; omega)
  have hle : (n + 1) * 6 ≤ cap * 6 := Nat.mul_le_mul_right 6 hcap
  have hcl : cs.length = n * 6 := by rw [← hcs, List.length_take]; omega
  have hdl : (cs.drop (i * 6)).length = (n - i) * 6 := by rw [List.length_drop, hcl]; omega
  obtain ⟨s1, s2, s3⟩ := shifted cur cs vs i n hcs (by omega) hvl hi'
  generalize hR1 : cur.take ((i + 1) * 6) ++ cs.drop (i * 6) ++ cur.drop ((i + 1) * 6 + (cs.drop (i * 6)).length) = R1 at s1 s2 s3
  generalize hR2 : R1.take (i * 6) ++ vs ++ R1.drop (i * 6 + vs.length) = R2 at s1 s2
  have hcp1 : ∀ ty dc sc, (Builtin.copy_ #[22, 22] ty #[.slice (some ⟨g, (i + 1) * 6, none⟩) (n - i) dc, .slice (some ⟨g, i * 6, none⟩) (n + 1 - i) sc]).run Try.prog w.drew = .ok (goInt (n - i : Nat)) (w.drew.setRow g R1.toArray) := fun ty dc sc => by
    have := run_copy_row_k Try.prog w.drew 22 22 ty 43 6 g ((i + 1) * 6) (n - i) dc ⟨g, i * 6, none⟩ (n + 1 - i) sc (n - i) cur.toArray 43 (cs.drop (i * 6)) Try.underlying22 sizeE hc (by simp only [Nat.min_def]; split <;> omega) hdl
      (row_cells (w := w) hc (by simpa using hcs)) (by rw [hdl]; simp; omega) (take_le_mem h1c)
    rw [this]
    simp only [List.toList_toArray, ← hR1]
  have hh1 : (w.drew.setRow g R1.toArray).heap[g]? = some (.cells R1.toArray 43 (0, 0)) := setRow_heap w.drew g cur.toArray R1.toArray 43 _ hc
  have hvW : ∀ j u, vs[j]? = some u → (w.drew.setRow g R1.toArray).cell? ((⟨vb, 0, none⟩ : Addr).add j) = some u := by
    refine World.news_of_block (w := w.drew.setRow g R1.toArray) (cs := vs.toArray) (t := 43) (fr := (0, 0)) ?_
    rw [setRow_other _ _ _ _ hvb]; exact hv
  have hcp2 : ∀ (W : World), W = w.drew.setRow g R1.toArray → ∀ ty dc, (Builtin.copy_ #[22, 22] ty #[.slice (some ⟨g, i * 6, none⟩) (n + 1 - i) dc, .slice (some ⟨vb, 0, none⟩) 1 1]).run Try.prog W = .ok (goInt (1 : Nat)) (w.drew.setRow g R2.toArray) := fun W hW ty dc => by
    subst hW
    have := run_copy_row_k Try.prog (w.drew.setRow g R1.toArray) 22 22 ty 43 6 g (i * 6) (n + 1 - i) dc ⟨vb, 0, none⟩ 1 1 1 R1.toArray 43 vs Try.underlying22 sizeE hh1 (by simp only [Nat.min_def]; split <;> omega) (by omega)
      hvW (by simp; omega) h1v
    rw [this, setRow_setRow]
    simp only [List.toList_toArray, ← hR2]
  have hown : (w.drew.setRow g R2.toArray).ownsRow base 43 6 (.slice (some ⟨g, 0, none⟩) (n + 1) cap) (n + 1) (cs.take (i * 6) ++ vs ++ cs.drop (i * 6)) :=
    ownsRow_of hg (setRow_heap w.drew g cur.toArray R2.toArray 43 _ hc) hcap hm (by omega) s1
  have hgrw : w.grownBy (w.drew.setRow g R2.toArray) (some g) := ⟨rfl, rfl, rfl, (grown_setRow w.drew g _).size, fun k hk hne => (grown_setRow w.drew g _).block k hk hne⟩
  generalize hXS : cs.take (i * 6) ++ vs ++ cs.drop (i * 6) = XS at *
  have HOWN := Hd.mk hown
  have HGRW := Hd.mk hgrw
  clear hown hgrw s1 s2 s3 hR1 hR2 hh1 hvW hXS hdl hcl hle hcs
  have hz3 : ¬ ((i : Int) = (n : Int)) := by omega
  have hz4 : ¬ ((cap : Int) < (n : Int) + 1) := by omega
  have hz5 : ¬ (cap = i) := by omega
  have hz6 : ¬ (cap = i + 1) := by omega
  have hw1 : IntKind.i64.wrap ((i : Int) + 1) = (i : Int) + 1 := IntWalk.i64_in _ (by omega)
  have htn : ((i : Int) + 1).toNat = i + 1 := by omega
  have hb1 : (0 : Int) ≤ (i : Int) + 1 := by omega
  have hin : i ≤ n := by omega
  have hb3 : (i : Int) ≤ (n : Int) + 1 := by omega
  unfold maxLen at hm
  clear hc hv hs
  have mixed := mixed
  go_enter Try.func50, Try.ntmps50
  go_wp2_with (simp only [hov])
  go_region_law_o (refine step_copy_runI rfl _ _ 22 22 rfl _ _ (by simp [Act.eval, Act.put]) (by simp [Act.eval, Act.put]) (hcp1 _ _ _) ?_)
  go_wp2_with (at_builtin; refine wpList_copy_runI _ rfl _ _ 22 22 rfl _ _ rfl rfl (hcp2 _ rfl _ _) ?_)
  go_ret
  exact ⟨_, rfl, HOWN.out, HGRW.out⟩
/-- What lies in the new row behind the copies. -/
theorem regrown (cs vs zs : List Value) (i n : Nat) (hcl : cs.length = n * 6) (hv : vs.length = 6) (hi : i < n) (hz : (n + 1 - i) * 6 ≤ zs.length) :
    let R0 := cs.take (i * 6) ++ zs
    let R1 := R0.take (i * 6) ++ vs ++ R0.drop (i * 6 + vs.length)
    let R2 := R1.take ((i + 1) * 6) ++ cs.drop (i * 6) ++ R1.drop ((i + 1) * 6 + (cs.drop (i * 6)).length)
    R2.take ((n + 1) * 6) = cs.take (i * 6) ++ vs ++ cs.drop (i * 6) ∧ R2.length = i * 6 + zs.length ∧ R1.length = i * 6 + zs.length ∧ R0.length = i * 6 + zs.length := by
  have hdl : (cs.drop (i * 6)).length = n * 6 - i * 6 := by rw [List.length_drop, hcl]
  have htl : (cs.take (i * 6)).length = i * 6 := by rw [List.length_take]; omega
  intro R0 R1 R2
  have l0 : R0.length = i * 6 + zs.length := by show (cs.take (i * 6) ++ zs).length = _; rw [List.length_append, htl]
  have l1 : R1.length = i * 6 + zs.length := by
    show (R0.take (i * 6) ++ vs ++ R0.drop (i * 6 + vs.length)).length = _
    simp only [List.length_append, List.length_take, List.length_drop, l0]; omega
  have l2 : R2.length = i * 6 + zs.length := by
    show (R1.take ((i + 1) * 6) ++ cs.drop (i * 6) ++ R1.drop ((i + 1) * 6 + (cs.drop (i * 6)).length)).length = _
    simp only [List.length_append, List.length_take, List.length_drop, l1, hcl]; omega
  refine ⟨?_, l2, l1, l0⟩
  have e1 : R1.take ((i + 1) * 6) = cs.take (i * 6) ++ vs := by
    show (R0.take (i * 6) ++ vs ++ R0.drop (i * 6 + vs.length)).take ((i + 1) * 6) = _
    have : R0.take (i * 6) = cs.take (i * 6) := by
      show (cs.take (i * 6) ++ zs).take (i * 6) = _
      rw [List.take_append_of_le_length (by omega), List.take_take, Nat.min_self]
    rw [this, show (i + 1) * 6 = (cs.take (i * 6) ++ vs).length by rw [List.length_append, htl, hv]; omega, List.take_left]
  show (R1.take ((i + 1) * 6) ++ cs.drop (i * 6) ++ R1.drop ((i + 1) * 6 + (cs.drop (i * 6)).length)).take ((n + 1) * 6) = _
  rw [e1, show (n + 1) * 6 = (cs.take (i * 6) ++ vs ++ cs.drop (i * 6)).length by simp only [List.length_append, htl, hv, hdl]; omega, List.take_left]
set_option maxRecDepth 100000 in
set_option maxHeartbeats 4000000 in
/-- In between, with no room: a new row. -/
theorem insert_grow (base g n i : Nat) (cur : List Value) (cs vs : List Value) (vb : Nat) (w : World) (hg : base ≤ g) (hc : w.heap[g]? = some (.cells cur.toArray 43 (0, 0))) (hs : cur.length = n * 6) (hcs : cur.take (n * 6) = cs) (hi' : i < n)
    (hn : n ≤ 1000000) (hv : w.heap[vb]? = some (.cells vs.toArray 43 (0, 0))) (hvl : vs.length = 6) (h1v : ∀ u ∈ vs, u.oneCell' = true) (h1c : ∀ u ∈ cs, u.oneCell' = true) (hb : base ≤ w.heap.size) :
    Calls Try.prog 50 #[.slice (some ⟨g, 0, none⟩) n n, .int .i64 i, .slice (some ⟨vb, 0, none⟩) 1 1] w fun e w' => ∃ v', e = .returned v' ∧ w'.ownsRow base 43 6 v' (n + 1) (cs.take (i * 6) ++ vs ++ cs.drop (i * 6)) ∧ w.grownBy w' (some g) := by
  obtain ⟨i0, hi, hz0, hz1, hz2⟩ := info_of infoE
  have hcl : cs.length = n * 6 := by rw [← hcs, List.length_take]; omega
  have hdl : (cs.drop (i * 6)).length = (n - i) * 6 := by rw [List.length_drop, hcl]; omega
  have htl : (cs.take (i * 6)).length = i * 6 := by rw [List.length_take]; omega
  have hgl : g < w.heap.size := (Array.getElem?_eq_some_iff.1 hc).1
  have hvlt : vb < w.heap.size := (Array.getElem?_eq_some_iff.1 hv).1
  have hcell := row_cells (w := w) (o := 0) hc (by simpa using hcs)
  have hold : (Builtin.firstCells i0.size i (.slice (some ⟨g, 0, none⟩) i n)).run Try.prog w.drew = .ok (cs.take (i * 6)).toArray w.drew := by
    rw [hz1]
    exact run_firstCells_some w.drew 6 i ⟨g, 0, none⟩ i n (cs.take (i * 6)) htl (fun j u hj => by
      rw [List.getElem?_take] at hj
      split at hj
      · exact hcell j u (by simpa using hj)
      · simp at hj)
  have happ : ∀ ty, (Builtin.append_ #[22, 3] ty #[.slice (some ⟨g, 0, none⟩) i n, .int .i64 ((n : Int) + 1 - (i : Int))]).run Try.prog w = .ok (.slice (some ⟨w.heap.size, 0, none⟩) (n + 1) (grownCap w (n + 1) n 43)) (w.drew.alloc (.cells ((cs.take (i * 6)).toArray.toList.toArray ++ Builtin.zeroCells (Value.cells (.agg #[.int .i64 0, .int .i64 0, .int .i64 0, .bool false, .int .i64 0, .int .i64 0])) (n + 1 - i) ++ Builtin.zeroCells (Value.cells (.agg #[.int .i64 0, .int .i64 0, .int .i64 0, .bool false, .int .i64 0, .int .i64 0])) (grownCap w (n + 1) n 43 - (n + 1))) 43)) := fun ty => by
    have h := Lib.run_append_grow_zeros w 22 3 ty 43 i0 _ .i64 .i64 Try.underlying22 Try.underlying3 hi hz0 (some ⟨g, 0, none⟩) i n (cs.take (i * 6)).toArray.toList (by simpa using hold) (n + 1 - i) (by omega) (by omega) (by omega) (by omega) (by rw [hz2]; omega) (by rw [hz2]; exact growslice_fits (by omega) (by omega))
    rw [show i + (n + 1 - i) = n + 1 by omega] at h
    rw [show (n : Int) + 1 - (i : Int) = ((n + 1 - i : Nat) : Int) by omega]
    exact h
  generalize hG : grownCap w (n + 1) n 43 = G at happ
  have hGn : n + 1 ≤ G := by rw [← hG]; exact grownCap_ge w _ _ _
  have hGm : G ≤ maxLen := by rw [← hG]; exact grownCap_le_maxLen w _ _ _ (by simp only [maxLen]; omega)
  clear hG
  generalize hzs : (Builtin.zeroCells (Value.cells (.agg #[.int .i64 0, .int .i64 0, .int .i64 0, .bool false, .int .i64 0, .int .i64 0])) (n + 1 - i) ++ Builtin.zeroCells (Value.cells (.agg #[.int .i64 0, .int .i64 0, .int .i64 0, .bool false, .int .i64 0, .int .i64 0])) (G - (n + 1))).toList = zs
  have hzl : zs.length = (n + 1 - i) * 6 + (G - (n + 1)) * 6 := by
    rw [← hzs]
    simp [Builtin.zeroCells, Value.cells, Nat.mul_comm]
  have hrow : ((cs.take (i * 6)).toArray.toList.toArray ++ Builtin.zeroCells (Value.cells (.agg #[.int .i64 0, .int .i64 0, .int .i64 0, .bool false, .int .i64 0, .int .i64 0])) (n + 1 - i) ++ Builtin.zeroCells (Value.cells (.agg #[.int .i64 0, .int .i64 0, .int .i64 0, .bool false, .int .i64 0, .int .i64 0])) (G - (n + 1))) = (cs.take (i * 6) ++ zs).toArray := by
    rw [← hzs]
    apply Array.toList_inj.1
    simp
  have happ' : ∀ ty, (Builtin.append_ #[22, 3] ty #[.slice (some ⟨g, 0, none⟩) i n, .int .i64 ((n : Int) + 1 - (i : Int))]).run Try.prog w = .ok (.slice (some ⟨w.heap.size, 0, none⟩) (n + 1) G) (w.drew.alloc (.cells (cs.take (i * 6) ++ zs).toArray 43)) := fun ty => by
    rw [← hrow]
    exact happ ty
  clear happ hrow hzs hold hcell
  obtain ⟨s1, s2, s3, s4⟩ := regrown cs vs zs i n hcl hvl hi' (by omega)
  generalize hR0 : cs.take (i * 6) ++ zs = R0 at *
  generalize hR1 : R0.take (i * 6) ++ vs ++ R0.drop (i * 6 + vs.length) = R1 at s1 s2 s3
  generalize hR2 : R1.take ((i + 1) * 6) ++ cs.drop (i * 6) ++ R1.drop ((i + 1) * 6 + (cs.drop (i * 6)).length) = R2 at s1 s2
  have hh0 : (w.drew.alloc (.cells R0.toArray 43)).heap[w.heap.size]? = some (.cells R0.toArray 43 (0, 0)) := heap_alloc_new w.drew _
  have old : ∀ k, k < w.heap.size → (w.drew.alloc (.cells R0.toArray 43)).heap[k]? = w.heap[k]? := fun k hk => Below.heap_alloc w.drew _ k hk
  have hcA : ∀ (W : World), W = w.drew.alloc (.cells R0.toArray 43) → ∀ ty dc, (Builtin.copy_ #[22, 22] ty #[.slice (some ⟨w.heap.size, i * 6, none⟩) (n + 1 - i) dc, .slice (some ⟨vb, 0, none⟩) 1 1]).run Try.prog W = .ok (goInt (1 : Nat)) ((w.drew.alloc (.cells R0.toArray 43)).setRow w.heap.size R1.toArray) := fun W hW ty dc => by
    subst hW
    have := run_copy_row_k Try.prog (w.drew.alloc (.cells R0.toArray 43)) 22 22 ty 43 6 w.heap.size (i * 6) (n + 1 - i) dc ⟨vb, 0, none⟩ 1 1 1 R0.toArray 43 vs Try.underlying22 sizeE hh0 (by simp only [Nat.min_def]; split <;> omega) (by omega)
      (World.news_of_block (w := w.drew.alloc (.cells R0.toArray 43)) (cs := vs.toArray) (by rw [old vb hvlt]; exact hv)) (by simp; omega) h1v
    rw [this]
    simp only [List.toList_toArray, ← hR1]
  have hh1 : ((w.drew.alloc (.cells R0.toArray 43)).setRow w.heap.size R1.toArray).heap[w.heap.size]? = some (.cells R1.toArray 43 (0, 0)) := setRow_heap _ _ R0.toArray R1.toArray 43 _ hh0
  have old1 : ∀ k, k < w.heap.size → ((w.drew.alloc (.cells R0.toArray 43)).setRow w.heap.size R1.toArray).heap[k]? = w.heap[k]? := fun k hk => by rw [setRow_other _ _ _ _ (by omega)]; exact old k hk
  have hcB : ∀ (W : World), W = ((w.drew.alloc (.cells R0.toArray 43)).setRow w.heap.size R1.toArray).drew → ∀ ty dc sc, (Builtin.copy_ #[22, 22] ty #[.slice (some ⟨w.heap.size, (i + 1) * 6, none⟩) (n - i) dc, .slice (some ⟨g, i * 6, none⟩) (n - i) sc]).run Try.prog W = .ok (goInt (n - i : Nat)) (((w.drew.alloc (.cells R0.toArray 43)).setRow w.heap.size R2.toArray).drew) := fun W hW ty dc sc => by
    subst hW
    have := run_copy_row_k Try.prog ((w.drew.alloc (.cells R0.toArray 43)).setRow w.heap.size R1.toArray).drew 22 22 ty 43 6 w.heap.size ((i + 1) * 6) (n - i) dc ⟨g, i * 6, none⟩ (n - i) sc (n - i) R1.toArray 43 (cs.drop (i * 6)) Try.underlying22 sizeE hh1 (by simp only [Nat.min_def]; split <;> omega) hdl
      (row_cells (w := ((w.drew.alloc (.cells R0.toArray 43)).setRow w.heap.size R1.toArray).drew) (cur := cur.toArray) (t := 43) (m := n * 6) (by rw [show ((w.drew.alloc (.cells R0.toArray 43)).setRow w.heap.size R1.toArray).drew.heap[g]? = _ from old1 g hgl]; exact hc) (by simpa using hcs)) (by rw [hdl]; simp; omega) (take_le_mem h1c)
    rw [this]
    show Result.ok _ ((((w.drew.alloc (.cells R0.toArray 43)).setRow w.heap.size R1.toArray).setRow w.heap.size _).drew) = _
    rw [setRow_setRow]
    simp only [List.toList_toArray, ← hR2]
  have hown : (((w.drew.alloc (.cells R0.toArray 43)).setRow w.heap.size R2.toArray).drew).ownsRow base 43 6 (.slice (some ⟨w.heap.size, 0, none⟩) (n + 1) G) (n + 1) (cs.take (i * 6) ++ vs ++ cs.drop (i * 6)) :=
    ownsRow_of hb (setRow_heap _ _ R0.toArray R2.toArray 43 _ hh0) hGn hGm (by omega) s1
  have hgrw : w.grownBy (((w.drew.alloc (.cells R0.toArray 43)).setRow w.heap.size R2.toArray).drew) (some g) := ⟨rfl, rfl, rfl, by
      show w.heap.size ≤ ((w.drew.alloc (.cells R0.toArray 43)).setRow w.heap.size R2.toArray).heap.size
      simp [World.setRow, World.alloc], fun k hk _ => by
      show ((w.drew.alloc (.cells R0.toArray 43)).setRow w.heap.size R2.toArray).heap[k]? = _
      rw [setRow_other _ _ _ _ (by omega)]; exact old k hk⟩
  generalize hXS : cs.take (i * 6) ++ vs ++ cs.drop (i * 6) = XS at *
  have HOWN := Hd.mk hown
  have HGRW := Hd.mk hgrw
  clear hown hgrw s1 s2 s3 s4 hR0 hR1 hR2 hh0 hh1 old old1 hXS hdl htl hcl hcs hzl hc hv hs hi hz0 hz1 hz2
  have hz3 : ¬ ((i : Int) = (n : Int)) := by omega
  have hz4 : ((n : Int) < (n : Int) + 1) := by omega
  have hz5 : ¬ (n = i) := by omega
  have hz6 : ¬ (G = i) := by omega
  have hz7 : ¬ (G = i + 1) := by omega
  have hw1 : IntKind.i64.wrap ((i : Int) + 1) = (i : Int) + 1 := IntWalk.i64_in _ (by omega)
  have htn : ((i : Int) + 1).toNat = i + 1 := by omega
  have hb1 : (0 : Int) ≤ (i : Int) + 1 := by omega
  have hin : i ≤ n := by omega
  have hb3 : (i : Int) ≤ (n : Int) := by omega
  have hb4 : (i : Int) ≤ (n : Int) + 1 := by omega
  unfold maxLen at hGm
  have mixed := mixed
  go_enter Try.func50, Try.ntmps50
  go_wp2_with (first
    | (at_builtin; refine Lib.wpList_append_run _ rfl _ _ _ _ rfl _ _ rfl rfl _ _ (happ' _) ?_)
    | (refine wpList_copy_runI _ (o := ⟨some 45, _, _, _, _, _⟩) rfl (.tmp 43) (.tmp 44) 22 22 rfl _ _ rfl rfl (hcA _ rfl _ _) ?_))
  go_region_law_o (refine step_copy_runI rfl _ _ 22 22 rfl (.slice (some ⟨w.heap.size, (i + 1) * 6, none⟩) (n - i) (G - (i + 1))) (.slice (some ⟨g, i * 6, none⟩) (n - i) (n - i)) (by simp [Act.eval, Act.put]) (by simp [Act.eval, Act.put]) (hcB _ rfl _ _ _) ?_)
  go_wp2
  go_ret
  exact ⟨_, rfl, HOWN.out, HGRW.out⟩
/-- slices.Insert of one element. -/
theorem insert_one (base : Nat) (v : Value) (n i : Nat) (cs vs : List Value) (vb : Nat) (w : World) (hown : w.ownsRow base 43 6 v n cs) (hn : n ≤ 1000000) (hi : i ≤ n) (hv : w.heap[vb]? = some (.cells vs.toArray 43 (0, 0))) (hvl : vs.length = 6)
    (h1v : ∀ u ∈ vs, u.oneCell' = true) (h1c : ∀ u ∈ cs, u.oneCell' = true) (hvb : some vb ≠ v.ownBlock) (hb : base ≤ w.heap.size) :
    Calls Try.prog 50 #[v, .int .i64 i, .slice (some ⟨vb, 0, none⟩) 1 1] w fun e w' => ∃ v', e = .returned v' ∧ w'.ownsRow base 43 6 v' (n + 1) (cs.take (i * 6) ++ vs ++ cs.drop (i * 6)) ∧ w.grownBy w' v.ownBlock := by
  by_cases hin : i = n
  · subst hin
    have hl : cs.length = i * 6 := hown.1
    rw [List.take_of_length_le (by omega), List.drop_of_length_le (by omega), List.append_nil]
    exact insert_end base v i cs vs vb w hown hn hv hvl h1v hb
  · rcases hown.2 with ⟨_, h0⟩ | ⟨g, cap, cur, rfl, hg, hh, hnc, hm, hs, ht⟩
    · omega
    · by_cases hroom : n + 1 ≤ cap
      · exact insert_shift base g cap n i cur.toList cs vs vb w hg (by simpa using hh) hroom hm (by simpa using hs) ht (by omega) hn hv hvl h1v h1c (fun e => hvb (by rw [e]; rfl))
      · obtain rfl : cap = n := by omega
        exact insert_grow base g cap i cur.toList cs vs vb w hg (by simpa using hh) (by simpa using hs) ht (by omega) hn hv hvl h1v h1c hb
end Go.Proofs.Ytcknakbjiklklaa.B
