import Derived.Test.YtcknakbjiklklaaS8
/- Lists of cells that are sorted: what stands in them; adding and removing. -/
namespace Go.Proofs.Ytcknakbjiklklaa.S
open Go Go.RowKit
set_option linter.unusedVariables false
theorem mem_nth {α : Type} [Inhabited α] {l : List α} {x : α} : x ∈ l ↔ ∃ k, k < l.length ∧ nth l k = x := by
  rw [List.mem_iff_getElem]
  constructor
  · rintro ⟨k, hk, e⟩; exact ⟨k, hk, by rw [nth_eq l k hk, e]⟩
  · rintro ⟨k, hk, e⟩; exact ⟨k, hk, by rw [← nth_eq l k hk, e]⟩
theorem lessT_asymm {a b : TC} (h : lessT a b) : ¬ lessT b a := by unfold lessT at *; omega
theorem not_same {a b : TC} (h : lessT a b) : ¬ sameP a b := by unfold lessT sameP at *; omega
theorem sorted_cons {x : TC} {r : List TC} : sortedT (x :: r) ↔ (∀ y ∈ r, lessT x y) ∧ sortedT r := by
  constructor
  · intro h
    refine ⟨fun y hy => ?_, fun i j hij hj => ?_⟩
    · obtain ⟨k, hk, rfl⟩ := mem_nth.1 hy
      have := h 0 (k + 1) (by omega) (by simp; omega)
      rwa [nth_cons_succ] at this
    · have := h (i + 1) (j + 1) (by omega) (by simp; omega)
      rwa [nth_cons_succ, nth_cons_succ] at this
  · rintro ⟨h1, h2⟩ i j hij hj
    cases j with
    | zero => omega
    | succ j =>
      rw [nth_cons_succ]
      cases i with
      | zero => exact h1 _ (mem_nth.2 ⟨j, by simpa using hj, rfl⟩)
      | succ i => rw [nth_cons_succ]; exact h2 i j (by omega) (by simpa using hj)
theorem sorted_nil : sortedT [] := fun i j _ h => by simp at h
theorem sorted_one (x : TC) : sortedT [x] := sorted_cons.2 ⟨fun y hy => by simp at hy, sorted_nil⟩
/-- Two sorted lists of the same cells are one. -/
theorem sorted_ext : ∀ {a b : List TC}, sortedT a → sortedT b → (∀ x, x ∈ a ↔ x ∈ b) → a = b
  | [], [], _, _, _ => rfl
  | [], y :: s, _, _, h => absurd ((h y).2 (by simp)) (by simp)
  | x :: r, [], _, _, h => absurd ((h x).1 (by simp)) (by simp)
  | x :: r, y :: s, ha, hb, h => by
    obtain ⟨a1, a2⟩ := sorted_cons.1 ha
    obtain ⟨b1, b2⟩ := sorted_cons.1 hb
    have e : x = y := by
      have h1 := (h x).1 (by simp)
      have h2 := (h y).2 (by simp)
      rcases List.mem_cons.1 h1 with e | e
      · exact e
      · rcases List.mem_cons.1 h2 with e2 | e2
        · exact e2.symm
        · exact absurd (b1 x e) (lessT_asymm (a1 y e2))
    subst e
    congr 1
    refine sorted_ext a2 b2 fun z => ?_
    have hz := h z
    simp only [List.mem_cons] at hz
    constructor
    · intro hm
      rcases hz.1 (.inr hm) with e | e
      · subst e; exact absurd (a1 _ hm) (lessT_irrefl _)
      · exact e
    · intro hm
      rcases hz.2 (.inr hm) with e | e
      · subst e; exact absurd (b1 _ hm) (lessT_irrefl _)
      · exact e
theorem sorted_filter (p : TC → Bool) : ∀ {l : List TC}, sortedT l → sortedT (l.filter p)
  | [], h => h
  | x :: r, h => by
    obtain ⟨h1, h2⟩ := sorted_cons.1 h
    rw [List.filter_cons]
    split
    · exact sorted_cons.2 ⟨fun y hy => h1 y (List.mem_filter.1 hy).1, sorted_filter p h2⟩
    · exact sorted_filter p h2
/-- Is there a cell of its slot and kind. -/
theorem found_iff {l : List TC} {x : TC} (h : sortedT l) : foundT l x = true ↔ ∃ y ∈ l, sameP y x := by
  unfold foundT
  rw [decide_eq_true_eq]
  constructor
  · rintro ⟨h1, h2⟩
    exact ⟨_, mem_nth.2 ⟨_, h1, rfl⟩, h2⟩
  · rintro ⟨y, hy, hs⟩
    obtain ⟨j, hj, rfl⟩ := mem_nth.1 hy
    have n1 : ¬ lessT (nth l j) x := fun hl => not_same hl hs
    have h1 : lowT l x ≤ j := by
      rcases Nat.lt_or_ge j (lowT l x) with e | e
      · exact absurd ((low_lt j hj h).2 e) n1
      · exact e
    rcases Nat.lt_or_ge (lowT l x) j with e | e
    · have h2 := h _ j e hj
      have h3 : lessT (nth l (lowT l x)) x := by unfold lessT sameP at *; omega
      exact absurd ((low_lt _ (by omega) h).1 h3) (Nat.lt_irrefl _)
    · obtain rfl : j = lowT l x := by omega
      exact ⟨hj, hs⟩
theorem taken_found {l : List TC} {x : TC} (h : sortedT l) : (l.any fun c => c.sl == x.sl && c.ki == x.ki) = foundT l x := by
  rw [Bool.eq_iff_iff, found_iff h, List.any_eq_true]
  constructor
  · rintro ⟨y, hy, hs⟩
    simp only [Bool.and_eq_true, beq_iff_eq] at hs
    exact ⟨y, hy, hs⟩
  · rintro ⟨y, hy, hs⟩
    exact ⟨y, hy, by simp only [Bool.and_eq_true, beq_iff_eq]; exact hs⟩
theorem mem_ins {l : List TC} {x y : TC} : y ∈ insT l x ↔ y = x ∨ y ∈ l := by
  unfold insT
  rw [List.mem_append, List.mem_cons]
  constructor
  · rintro (h | h | h)
    · exact .inr (List.mem_of_mem_take h)
    · exact .inl h
    · exact .inr (List.mem_of_mem_drop h)
  · rintro (h | h)
    · exact .inr (.inl h)
    · rw [← List.take_append_drop (lowT l x) l, List.mem_append] at h
      rcases h with h | h
      · exact .inl h
      · exact .inr (.inr h)
/-- What Add returns. -/
def addS (nd len : Int) (l : List TC) (x : TC) : Tb × Int :=
  if checkT nd len l ≠ 0 then (⟨0, 0, []⟩, 1) else if formS x nd len ≠ 0 then (⟨0, 0, []⟩, formS x nd len) else if foundT l x = true then (⟨0, 0, []⟩, 16)
  else if l.length = 512 then (⟨0, 0, []⟩, 8) else (⟨nd, len, insT l x⟩, 0)
/-- A list without a cell. -/
def delT (l : List TC) (x : TC) : List TC := l.filter fun y => !decide (y = x)
/-- What Remove returns. -/
def remS (nd len : Int) (l : List TC) (x : TC) : Tb × Int :=
  if checkT nd len l ≠ 0 then (⟨0, 0, []⟩, 1) else if x ∈ l then (⟨nd, len, delT l x⟩, 0) else (⟨0, 0, []⟩, 7)
theorem mem_del {l : List TC} {x y : TC} : y ∈ delT l x ↔ y ∈ l ∧ y ≠ x := by
  unfold delT
  rw [List.mem_filter]
  simp
/-- In a list that is sorted a cell stands once. -/
theorem del_at {l : List TC} {x : TC} {j : Nat} (hs : sortedT l) (hj : j < l.length) (he : nth l j = x) : delT l x = l.take j ++ l.drop (j + 1) := by
  have hd := drop_at l j hj
  have key : ∀ i, i < l.length → i ≠ j → nth l i ≠ x := by
    intro i hi hij e
    rcases Nat.lt_or_ge i j with h | h
    · have := hs i j h hj; rw [e, he] at this; exact lessT_irrefl _ this
    · have := hs j i (by omega) hi; rw [e, he] at this; exact lessT_irrefl _ this
  conv => lhs; rw [← List.take_append_drop j l, hd]
  unfold delT
  rw [List.filter_append, List.filter_cons, he]
  have e1 : (l.take j).filter (fun y => !decide (y = x)) = l.take j := by
    rw [List.filter_eq_self]
    intro y hy
    obtain ⟨i, hi, rfl⟩ := List.mem_iff_getElem.1 hy
    rw [List.length_take] at hi
    rw [List.getElem_take, ← nth_eq l i (by omega)]
    simp [key i (by omega) (by omega)]
  have e2 : (l.drop (j + 1)).filter (fun y => !decide (y = x)) = l.drop (j + 1) := by
    rw [List.filter_eq_self]
    intro y hy
    obtain ⟨i, hi, rfl⟩ := List.mem_iff_getElem.1 hy
    rw [List.length_drop] at hi
    rw [List.getElem_drop, ← nth_eq l (j + 1 + i) (by omega)]
    simp [key (j + 1 + i) (by omega) (by omega)]
  rw [e1, e2]
  simp
theorem del_len {l : List TC} {x : TC} : (delT l x).length = l.length ↔ x ∉ l := by
  unfold delT
  rw [List.length_filter_eq_length_iff]
  constructor
  · intro h hx
    have := h x hx
    simp at this
  · intro h y hy
    have : y ≠ x := fun e => h (e ▸ hy)
    simp [this]
theorem del_snoc (x : TC) (l : List TC) (k : Nat) (h : k < l.length) : delT (l.take (k + 1)) x = delT (l.take k) x ++ if nth l k = x then [] else [nth l k] := by
  unfold delT
  rw [List.take_succ_eq_append_getElem h, List.filter_append, ← nth_eq l k h]
  by_cases hq : nth l k = x <;> simp [hq]
end Go.Proofs.Ytcknakbjiklklaa.S
