import Derived.Test.YtcknakbjiklklaaS10
import Derived.Test.YtcknakbjiklklaaS12
/- What the law Free says. -/
namespace Go.Proofs.Ytcknakbjiklklaa.S
open Go Go.RowKit
set_option linter.unusedVariables false
/-- The place of a slot, as a list. -/
def spotL (f : List Int) (l : List TC) (s : Nat) : List Sp := match spotF f l s with | some k => [⟨s, k⟩] | none => []
/-- All places that fit, from slot s on. -/
def spots (f : List Int) (l : List TC) : Nat → Nat → List Sp
  | 0, _ => []
  | m + 1, s => spotL f l s ++ spots f l m (s + 1)
theorem spotL_len (f : List Int) (l : List TC) (s : Nat) : (spotL f l s).length ≤ 1 := by unfold spotL; split <;> simp
theorem cand_spots (f : List Int) (l : List TC) (n : Int) : ∀ (m s : Nat) (out : List Sp), candF f l n m s out = out ++ (spots f l m s).take (n - out.length).toNat
  | 0, s, out => by simp [candF, spots]
  | m + 1, s, out => by
    by_cases h : (out.length : Int) ≥ n
    · simp only [candF]
      rw [if_pos h, show (n - (out.length : Int)).toNat = 0 by omega]
      simp
    · have e := cand_step (f := f) (l := l) (m := m) (s := s) h
      have h1 := spotL_len f l s
      show candF f l n (m + 1) s out = _
      rw [e]
      show candF f l n m (s + 1) (out ++ spotL f l s) = _
      rw [cand_spots f l n m (s + 1)]
      simp only [spots]
      rw [List.append_assoc, List.take_append (l₁ := spotL f l s), List.take_of_length_le (l := spotL f l s) (by omega), List.length_append]
      congr 3
      omega
theorem spots_len (f : List Int) (l : List TC) : ∀ m s, (spots f l m s).length ≤ m
  | 0, s => Nat.le_refl _
  | m + 1, s => by
    have := spots_len f l m (s + 1)
    have := spotL_len f l s
    simp only [spots, List.length_append]
    omega
theorem fbit_some : ∀ {n : Int} {m k0 k : Nat}, fbit n m k0 = some k → bitS n k = true ∧ k0 ≤ k ∧ k < k0 + m
  | n, 0, k0, k, h => by simp [fbit] at h
  | n, m + 1, k0, k, h => by
    simp only [fbit] at h
    by_cases hb : bitS n k0 = true
    · rw [if_pos hb] at h
      injection h with h
      subst h
      exact ⟨hb, Nat.le_refl _, by omega⟩
    · rw [if_neg hb] at h
      obtain ⟨a, b, c⟩ := fbit_some h
      exact ⟨a, by omega, by omega⟩
/-- A place that fits. -/
def okSp (f : List Int) (l : List TC) (lo hi : Nat) (p : Sp) : Prop :=
  ((lo : Int) ≤ p.sl ∧ p.sl < hi) ∧ (0 ≤ p.off ∧ p.off < 16) ∧ usedS l p.sl = false ∧ bitS (nth f p.sl.toNat) p.off = true
theorem spotL_ok {f : List Int} {l : List TC} {s : Nat} : ∀ p ∈ spotL f l s, p.sl = s ∧ (0 ≤ p.off ∧ p.off < 16) ∧ usedS l p.sl = false ∧ bitS (nth f p.sl.toNat) p.off = true := by
  intro p hp
  unfold spotL spotF at hp
  by_cases hu : usedS l s = true
  · rw [if_pos hu] at hp; simp at hp
  · rw [if_neg hu] at hp
    cases hb : fbit (nth f s) 16 0 with
    | none => rw [hb] at hp; simp at hp
    | some k =>
      rw [hb] at hp
      simp at hp
      subst hp
      obtain ⟨a, b, c⟩ := fbit_some hb
      refine ⟨rfl, ⟨by simp, by simp; omega⟩, by simpa using hu, ?_⟩
      rw [Int.toNat_natCast]
      exact a
theorem spots_ok (f : List Int) (l : List TC) : ∀ m s, (∀ p ∈ spots f l m s, okSp f l s (s + m) p) ∧ (spots f l m s).Pairwise fun a b => a.sl < b.sl
  | 0, s => ⟨fun p hp => by simp [spots] at hp, by simp [spots]⟩
  | m + 1, s => by
    obtain ⟨a, b⟩ := spots_ok f l m (s + 1)
    refine ⟨fun p hp => ?_, ?_⟩
    · simp only [spots, List.mem_append] at hp
      rcases hp with hp | hp
      · obtain ⟨h1, h2⟩ := spotL_ok p hp
        exact ⟨by omega, h2⟩
      · obtain ⟨h1, h2⟩ := a p hp
        exact ⟨by omega, h2⟩
    · simp only [spots]
      rw [List.pairwise_append]
      refine ⟨?_, b, fun x hx y hy => ?_⟩
      · have := spotL_len f l s
        match h : spotL f l s, this with
        | [], _ => simp
        | [x], _ => simp
      · have h1 := (spotL_ok x hx).1
        have h2 := (a y hy).1
        omega
theorem cand_all {nd len : Int} {l : List TC} {f : List Int} {n : Int} (h0 : 0 ≤ n) (h1 : checkT nd len l = 0) (h2 : maskedS f len = true) : candS nd len l f n = (spots f l len.toNat 0).take n.toNat := by
  unfold candS
  rw [if_neg (by rw [h1, h2]; simp), cand_spots]
  simp
/-- The candidates of a number, and all of them. -/
theorem cand_rel {nd len : Int} {l : List TC} {f : List Int} {n : Int} (h0 : 0 ≤ n) : let p := candS nd len l f n; let a := candS nd len l f 512
    (p.length : Int) = min n (a.length : Int) ∧ a.take p.length = p ∧ p.length ≤ a.length ∧ ((f.length : Int) ≠ len → a = []) := by
  intro p a
  by_cases hh : checkT nd len l ≠ 0 ∨ maskedS f len = false
  · have e1 : p = [] := by show candS nd len l f n = []; unfold candS; rw [if_pos hh]
    have e2 : a = [] := by show candS nd len l f 512 = []; unfold candS; rw [if_pos hh]
    rw [e1, e2]
    refine ⟨by simp; omega, rfl, Nat.le_refl _, fun _ => rfl⟩
  · have h1 : checkT nd len l = 0 := Decidable.byContradiction fun e => hh (.inl e)
    have h2 : maskedS f len = true := by cases e : maskedS f len with | true => rfl | false => exact absurd (.inr e) hh
    have hl := (checkT_ok h1).2.1
    have hlen := spots_len f l len.toNat 0
    have e1 : p = (spots f l len.toNat 0).take n.toNat := cand_all h0 h1 h2
    have e2 : a = spots f l len.toNat 0 := by
      show candS nd len l f 512 = _
      rw [cand_all (by omega) h1 h2]
      exact List.take_of_length_le (by omega)
    rw [e1, e2]
    generalize spots f l len.toNat 0 = s at *
    refine ⟨by rw [List.length_take]; omega, ?_, by rw [List.length_take]; omega, fun hne => ?_⟩
    · rw [List.length_take]
      rcases Nat.le_total n.toNat s.length with h | h
      · rw [Nat.min_eq_left h]
      · rw [Nat.min_eq_right h, List.take_of_length_le h, List.take_of_length_le (Nat.le_refl _)]
    · unfold maskedS at h2
      rw [Bool.and_eq_true] at h2
      exact absurd (of_decide_eq_true h2.1) hne
/-- The places that the law adds at. -/
structure Places (nd len : Int) (l : List TC) (f : List Int) (p : List Sp) : Prop where
  ok : ∀ k, k < p.length → okSp f l 0 len.toNat (nth p k)
  sorted : ∀ i j, i < j → j < p.length → (nth p i).sl < (nth p j).sl
  mask : 0 < p.length → maskedS f len = true ∧ (p.length : Int) ≤ len
theorem cand_places {nd len : Int} {l : List TC} {f : List Int} {n : Int} (h0 : 0 ≤ n) : Places nd len l f (candS nd len l f n) := by
  by_cases hh : checkT nd len l ≠ 0 ∨ maskedS f len = false
  · have e1 : candS nd len l f n = [] := by unfold candS; rw [if_pos hh]
    rw [e1]
    exact ⟨fun k hk => by simp at hk, fun i j _ h => by simp at h, fun h => by simp at h⟩
  · have h1 : checkT nd len l = 0 := Decidable.byContradiction fun e => hh (.inl e)
    have h2 : maskedS f len = true := by cases e : maskedS f len with | true => rfl | false => exact absurd (.inr e) hh
    have hl := (checkT_ok h1).2.1
    have hlen := spots_len f l len.toNat 0
    rw [cand_all h0 h1 h2]
    obtain ⟨a, b⟩ := spots_ok f l len.toNat 0
    generalize spots f l len.toNat 0 = s at *
    refine ⟨fun k hk => ?_, fun i j hij hj => ?_, fun _ => ⟨h2, by rw [List.length_take]; omega⟩⟩
    · have := a (nth (s.take n.toNat) k) (List.mem_of_mem_take (mem_nth.2 ⟨k, hk, rfl⟩))
      rwa [Nat.zero_add] at this
    · have hp := List.Pairwise.sublist (List.take_sublist n.toNat s) b
      rw [List.pairwise_iff_getElem] at hp
      have := hp i j (by omega) hj hij
      rwa [← nth_eq _ _ (by omega), ← nth_eq _ _ hj] at this
def cC (peer : Int) (p : List Sp) (k : Nat) : TC := ⟨(nth p k).sl, (nth p k).off, 2, (k : Int) % 2 == 0, peer, -1⟩
def cD (nd : Int) (p : List Sp) (k : Nat) : TC := ⟨(nth p k).sl, (nth p k).off, 2, !((k : Int) % 2 == 0), nd, -1⟩
def addK (l : List TC) (g : Nat → TC) : Nat → List TC
  | 0 => l
  | k + 1 => insT (addK l g k) (g k)
theorem mem_addK {l : List TC} {g : Nat → TC} {x : TC} : ∀ {k : Nat}, x ∈ addK l g k ↔ x ∈ l ∨ ∃ j, j < k ∧ x = g j
  | 0 => by simp [addK]
  | k + 1 => by
    simp only [addK]
    rw [mem_ins, mem_addK]
    constructor
    · rintro (h | h | ⟨j, hj, h⟩)
      · exact .inr ⟨k, by omega, h⟩
      · exact .inl h
      · exact .inr ⟨j, by omega, h⟩
    · rintro (h | ⟨j, hj, h⟩)
      · exact .inr (.inl h)
      · rcases Nat.lt_or_ge j k with e | e
        · exact .inr (.inr ⟨j, e, h⟩)
        · obtain rfl : j = k := by omega
          exact .inl h
theorem len_addK (l : List TC) (g : Nat → TC) : ∀ k, (addK l g k).length = l.length + k
  | 0 => rfl
  | k + 1 => by simp only [addK]; rw [insT_len, len_addK l g k]; omega
/-- Adding one after the other. -/
theorem addK_ok {nd len : Int} {l : List TC} {g : Nat → TC} {m : Nat} (h1 : checkT nd len l = 0) (hf : ∀ k, k < m → formS (g k) nd len = 0) (hn : ∀ k, k < m → (∀ y ∈ l, ¬ sameP y (g k)) ∧ ∀ j, j < k → ¬ sameP (g j) (g k)) (hl : l.length + m ≤ 512) :
    ∀ k, k ≤ m → checkT nd len (addK l g k) = 0 ∧ (k < m → addS nd len (addK l g k) (g k) = (⟨nd, len, addK l g (k + 1)⟩, 0)) := by
  have step : ∀ k, k < m → checkT nd len (addK l g k) = 0 → (addS nd len (addK l g k) (g k)).2 = 0 := fun k hk hc => by
    obtain ⟨_, _, _, _, e⟩ := checkT_iff.1 hc
    refine add_ok.2 ⟨hc, hf k hk, found_false e fun y hy => ?_, by rw [len_addK]; omega⟩
    rcases mem_addK.1 hy with h | ⟨j, hj, rfl⟩
    · exact (hn k hk).1 y h
    · exact (hn k hk).2 j hj
  intro k
  induction k with
  | zero => exact fun _ => ⟨h1, fun h => add_val (step 0 h h1)⟩
  | succ k ih =>
    intro hk
    have hc := add_check (step k (by omega) (ih (by omega)).1)
    exact ⟨hc, fun h => add_val (step (k + 1) h hc)⟩
theorem opp_map {f g : Nat → TC} : ∀ {r : List Nat}, (∀ k ∈ r, oppP (f k) (g k) = true) → oppS (r.map f) (r.map g) = true
  | [], _ => rfl
  | k :: r, h => by
    simp only [List.map_cons, oppS]
    rw [h k (by simp), Bool.true_and]
    exact opp_map fun j hj => h j (by simp [hj])
theorem nth_map_range (g : Nat → TC) (m k : Nat) (h : k < m) : nth ((List.range m).map g) k = g k := by
  rw [nth_eq _ _ (by simpa using h)]; simp
/-- The agreed cells with a neighbour are those that were added. -/
theorem agreed_addK {l : List TC} {g : Nat → TC} {m : Nat} {q : Int} (hs : sortedT (addK l g m)) (hl : l.filter (agreed q) = []) (hg : ∀ k, k < m → agreed q (g k) = true) (hi : ∀ i j, i < j → j < m → (g i).sl < (g j).sl) :
    (addK l g m).filter (agreed q) = (List.range m).map g := by
  refine sorted_ext (sorted_filter _ hs) (fun i j hij hj => ?_) fun x => ?_
  · simp only [List.length_map, List.length_range] at hj
    rw [nth_map_range g m i (by omega), nth_map_range g m j hj]
    exact .inl (hi i j hij hj)
  · rw [List.mem_filter, mem_addK, List.mem_map]
    constructor
    · rintro ⟨h | ⟨j, hj, rfl⟩, ha⟩
      · have : x ∈ l.filter (agreed q) := List.mem_filter.2 ⟨h, ha⟩
        rw [hl] at this
        cases this
      · exact ⟨j, by simpa using hj, rfl⟩
    · rintro ⟨j, hj, rfl⟩
      have hj : j < m := by simpa using hj
      exact ⟨.inr ⟨j, hj, rfl⟩, hg j hj⟩
/-- What the walk of the law Free wants. -/
structure FreeFacts (nd len peer : Int) (l : List TC) (f : List Int) (p : List Sp) : Prop where
  fits : ∀ k, k < p.length → fitsS nd len l f (nth p k).sl (nth p k).off = true
  rng : ∀ k, k < p.length → (0 ≤ (nth p k).sl ∧ (nth p k).sl < len) ∧ (0 ≤ (nth p k).off ∧ (nth p k).off < 16) ∧ (nth p k).sl < (f.length : Int) ∧ bitS (nth f (nth p k).sl.toNat) (nth p k).off = true ∧ 0 ≤ nth f (nth p k).sl.toNat ∧ nth f (nth p k).sl.toNat < 65536
  sorted : ∀ i j, i < j → j < p.length → (nth p i).sl < (nth p j).sl
  own : ∀ k, k < p.length → addS nd len (addK l (cC peer p) k) (cC peer p k) = (⟨nd, len, addK l (cC peer p) (k + 1)⟩, 0)
  oth : ∀ k, k < p.length → addS peer len (addK [] (cD nd p) k) (cD nd p k) = (⟨peer, len, addK [] (cD nd p) (k + 1)⟩, 0)
  atk : ∀ k, k < p.length → atS nd len (addK l (cC peer p) (k + 1)) ((nth p k).sl + len) = (cC peer p k, true)
  nofit : ∀ k, k < p.length → fitsS nd len (addK l (cC peer p) (k + 1)) f (nth p k).sl (nth p k).off = false
  mir1 : mirS nd len (addK l (cC peer p) p.length) peer len (addK [] (cD nd p) p.length) = true
  mir2 : mirS peer len (addK [] (cD nd p) p.length) nd len (addK l (cC peer p) p.length) = true
theorem free_facts {nd len peer : Int} {l : List TC} {f : List Int} {p : List Sp} (h1 : checkT nd len l = 0) (hl : l.length ≤ 40) (hf : f.length ≤ 64) (hp : 0 ≤ peer ∧ peer ≤ 31) (hne : peer ≠ nd) (hb : betS nd len l peer = []) (hP : Places nd len l f p) : FreeFacts nd len peer l f p := by
  obtain ⟨c1, c2, c3, c4, c5⟩ := checkT_iff.1 h1
  have hm : ∀ k, k < p.length → maskedS f len = true ∧ (f.length : Int) = len ∧ ∀ j, j < f.length → 0 ≤ nth f j ∧ nth f j < 65536 := fun k hk => by
    have h := (hP.mask (by omega)).1
    refine ⟨h, ?_⟩
    unfold maskedS at h
    rw [Bool.and_eq_true] at h
    refine ⟨of_decide_eq_true h.1, fun j hj => ?_⟩
    have h2 := h.2
    rw [Bool.not_eq_true', List.any_eq_false] at h2
    have := h2 _ (List.getElem_mem hj)
    rw [nth_eq _ _ hj]
    simp [badM] at this
    omega
  have hlen : p.length ≤ 64 := by
    rcases Nat.eq_zero_or_pos p.length with h | h
    · omega
    · have := (hP.mask h).2
      have := (hm 0 h).2.1
      omega
  have hrng : ∀ k, k < p.length → (0 ≤ (nth p k).sl ∧ (nth p k).sl < len) ∧ (0 ≤ (nth p k).off ∧ (nth p k).off < 16) ∧ (nth p k).sl < (f.length : Int) ∧ bitS (nth f (nth p k).sl.toNat) (nth p k).off = true ∧ 0 ≤ nth f (nth p k).sl.toNat ∧ nth f (nth p k).sl.toNat < 65536 := fun k hk => by
    obtain ⟨a, b, _, d⟩ := hP.ok k hk
    obtain ⟨_, e, g⟩ := hm k hk
    have ha : 0 ≤ (nth p k).sl ∧ (nth p k).sl < len := by omega
    have hs := g (nth p k).sl.toNat (by omega)
    exact ⟨ha, b, by omega, d, hs.1, hs.2⟩
  have hfit : ∀ k, k < p.length → fitsS nd len l f (nth p k).sl (nth p k).off = true := fun k hk => by
    obtain ⟨a, b, _, d, _⟩ := hrng k hk
    have hu := (hP.ok k hk).2.2.1
    unfold fitsS
    rw [decide_eq_true h1, (hm k hk).1, decide_eq_true ⟨a, b⟩, d, hu]
    rfl
  have hsl : ∀ i j, i < j → j < p.length → (nth p i).sl ≠ (nth p j).sl := fun i j h1 h2 => by have := hP.sorted i j h1 h2; omega
  have hown := addK_ok (nd := nd) (len := len) (l := l) (g := cC peer p) (m := p.length) h1 (fun k hk => by
      obtain ⟨a, b, _⟩ := hrng k hk
      unfold formS cC
      dsimp only
      rw [if_neg (by omega), if_neg (by omega), if_neg (by omega)]) (fun k hk => ⟨fun y hy hs => by
      have hu := (hP.ok k hk).2.2.1
      unfold usedS at hu
      rw [List.any_eq_false] at hu
      have := hu y hy
      simp at this
      exact this hs.1, fun j hj hs => hsl j k hj hk hs.1⟩) (by omega)
  have hp0 : checkT peer len [] = 0 := checkT_iff.2 ⟨hp, c2, by simp, fun x hx => (by cases hx), sorted_nil⟩
  have hoth := addK_ok (nd := peer) (len := len) (l := []) (g := cD nd p) (m := p.length) hp0 (fun k hk => by
      obtain ⟨a, b, _⟩ := hrng k hk
      unfold formS cD
      dsimp only
      rw [if_neg (by omega), if_neg (by omega), if_neg (by omega)]) (fun k hk => ⟨fun y hy => (by cases hy), fun j hj hs => hsl j k hj hk hs.1⟩) (by simp; omega)
  have hck : ∀ k, k ≤ p.length → checkT nd len (addK l (cC peer p) k) = 0 := fun k hk => (hown k hk).1
  have hse : ∀ k, k < p.length → ∀ y ∈ addK l (cC peer p) (k + 1), y.sl = (nth p k).sl → y = cC peer p k := fun k hk y hy he => by
    rcases mem_addK.1 hy with h | ⟨j, hj, rfl⟩
    · have hu := (hP.ok k hk).2.2.1
      unfold usedS at hu
      rw [List.any_eq_false] at hu
      have := hu y h
      simp at this
      exact absurd he this
    · rcases Nat.lt_or_ge j k with e | e
      · exact absurd he (hsl j k e hk)
      · obtain rfl : j = k := by omega
        rfl
  have hat : ∀ k, k < p.length → atS nd len (addK l (cC peer p) (k + 1)) ((nth p k).sl + len) = (cC peer p k, true) := fun k hk => by
    obtain ⟨a, b, _⟩ := hrng k hk
    have hc := hck (k + 1) hk
    obtain ⟨_, _, _, _, hs⟩ := checkT_iff.1 hc
    obtain ⟨j, hj, hjx⟩ := mem_nth.1 (mem_addK.2 (.inr ⟨k, Nat.lt_succ_self k, rfl⟩) : cC peer p k ∈ addK l (cC peer p) (k + 1))
    have he : (nth (addK l (cC peer p) (k + 1)) j).sl = (nth p k).sl := by rw [hjx]; rfl
    obtain ⟨e1, e2⟩ := first_at (t := (nth p k).sl) (sorted_sl hs) hj he (fun i hi hh => by
      have h1 := hse k hk _ (mem_nth.2 ⟨i, by omega, rfl⟩) hh
      have h2 := hs i j hi hj
      rw [h1, hjx] at h2
      exact lessT_irrefl _ h2)
    have hmod : ((nth p k).sl + len) % len = (nth p k).sl := by rw [Int.add_emod_right]; exact Int.emod_eq_of_lt a.1 a.2
    unfold atS
    rw [if_neg (by rw [hc]; simp; omega), hmod, if_pos e2, e1, hjx]
  have hno : ∀ k, k < p.length → fitsS nd len (addK l (cC peer p) (k + 1)) f (nth p k).sl (nth p k).off = false := fun k hk => by
    have hu : usedS (addK l (cC peer p) (k + 1)) (nth p k).sl = true := by
      unfold usedS
      rw [List.any_eq_true]
      exact ⟨_, mem_addK.2 (.inr ⟨k, Nat.lt_succ_self k, rfl⟩), by simp [cC]⟩
    unfold fitsS
    rw [hu]
    simp
  have hbl : l.filter (agreed peer) = [] := by
    unfold betS at hb
    rw [if_neg (by simp [h1])] at hb
    exact hb
  have hA := (checkT_iff.1 (hck p.length (Nat.le_refl _))).2.2.2.2
  have hB := (checkT_iff.1 (hoth p.length (Nat.le_refl _)).1).2.2.2.2
  have eA : betS nd len (addK l (cC peer p) p.length) peer = (List.range p.length).map (cC peer p) := by
    unfold betS
    rw [if_neg (by simp [hck p.length (Nat.le_refl _)])]
    exact agreed_addK hA hbl (fun k hk => by simp [agreed, cC]) (fun i j h1 h2 => hP.sorted i j h1 h2)
  have eB : betS peer len (addK [] (cD nd p) p.length) nd = (List.range p.length).map (cD nd p) := by
    unfold betS
    rw [if_neg (by simp [(hoth p.length (Nat.le_refl _)).1])]
    exact agreed_addK hB rfl (fun k hk => by simp [agreed, cD]) (fun i j h1 h2 => hP.sorted i j h1 h2)
  refine ⟨hfit, hrng, hP.sorted, fun k hk => (hown k (by omega)).2 hk, fun k hk => (hoth k (by omega)).2 hk, hat, hno, ?_, ?_⟩
  · unfold mirS
    rw [decide_eq_true (hck p.length (Nat.le_refl _)), decide_eq_true (hoth p.length (Nat.le_refl _)).1, decide_eq_true (show nd ≠ peer from fun e => hne e.symm), decide_eq_true rfl, eA, eB]
    rw [opp_map (fun k _ => by simp [oppP, cC, cD])]
    rfl
  · unfold mirS
    rw [decide_eq_true (hck p.length (Nat.le_refl _)), decide_eq_true (hoth p.length (Nat.le_refl _)).1, decide_eq_true hne, decide_eq_true rfl, eA, eB]
    rw [opp_map (fun k _ => by simp [oppP, cC, cD])]
    rfl
end Go.Proofs.Ytcknakbjiklklaa.S
