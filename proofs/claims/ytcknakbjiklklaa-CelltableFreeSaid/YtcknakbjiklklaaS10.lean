import Derived.Test.YtcknakbjiklklaaS9
/- Adding and removing: what the law Undone says. -/
namespace Go.Proofs.Ytcknakbjiklklaa.S
open Go Go.RowKit
set_option linter.unusedVariables false
theorem checkF_of {n len : Int} : ∀ (l : List TC) (p : Option TC), (∀ x ∈ l, formS x n len = 0) → sortedT l → (∀ q, p = some q → ∀ x ∈ l, lessT q x) → checkF n len p l = 0
  | [], p, _, _, _ => rfl
  | x :: r, p, h1, h2, h3 => by
    obtain ⟨a, b⟩ := sorted_cons.1 h2
    have ih := checkF_of r (some x) (fun y hy => h1 y (by simp [hy])) b (fun q hq y hy => by injection hq with hq; subst hq; exact a y hy)
    simp only [checkF]
    rw [if_neg (by rw [h1 x (by simp)]; decide)]
    cases p with
    | none => exact ih
    | some q =>
      have := (cmpT_neg q x).2 (h3 q rfl x (by simp))
      simp only
      rw [if_neg (by omega)]
      exact ih
/-- When a table is right. -/
theorem checkT_iff {n len : Int} {l : List TC} : checkT n len l = 0 ↔ (0 ≤ n ∧ n ≤ 31) ∧ (1 ≤ len ∧ len ≤ 512) ∧ l.length ≤ 512 ∧ (∀ x ∈ l, formS x n len = 0) ∧ sortedT l := by
  constructor
  · intro h
    obtain ⟨a, b, c, d, e⟩ := checkT_ok h
    exact ⟨a, b, c, fun x hx => by obtain ⟨k, hk, rfl⟩ := mem_nth.1 hx; exact d k hk, e⟩
  · rintro ⟨a, b, c, d, e⟩
    unfold checkT
    rw [if_neg (by omega), if_neg (by omega)]
    exact checkF_of l none d e (fun q hq => by cases hq)
theorem sameP_symm {a b : TC} (h : sameP a b) : sameP b a := ⟨h.1.symm, h.2.symm⟩
theorem sameP_refl (a : TC) : sameP a a := ⟨rfl, rfl⟩
theorem not_found {l : List TC} {x : TC} (h : sortedT l) (hf : foundT l x = false) : ∀ y ∈ l, ¬ sameP y x := fun y hy hs => by
  rw [(found_iff h).2 ⟨y, hy, hs⟩] at hf; cases hf
theorem found_false {l : List TC} {x : TC} (h : sortedT l) (hf : ∀ y ∈ l, ¬ sameP y x) : foundT l x = false := by
  cases e : foundT l x with
  | false => rfl
  | true => obtain ⟨y, hy, hs⟩ := (found_iff h).1 e; exact absurd hs (hf y hy)
/-- A cell that was added. -/
theorem add_ok {nd len : Int} {l : List TC} {x : TC} : (addS nd len l x).2 = 0 ↔ checkT nd len l = 0 ∧ formS x nd len = 0 ∧ foundT l x = false ∧ l.length ≠ 512 := by
  unfold addS
  by_cases h1 : checkT nd len l = 0
  · rw [if_neg (by simp [h1])]
    by_cases h2 : formS x nd len = 0
    · rw [if_neg (by simp [h2])]
      cases h3 : foundT l x with
      | true => simp
      | false =>
        rw [if_neg (by decide)]
        by_cases h4 : l.length = 512
        · rw [if_pos h4]; simp [h4]
        · rw [if_neg h4]; simp [h1, h2, h4]
    · rw [if_pos h2]; simp [h2]
  · rw [if_pos h1]; simp [h1]
theorem add_val {nd len : Int} {l : List TC} {x : TC} (h : (addS nd len l x).2 = 0) : addS nd len l x = (⟨nd, len, insT l x⟩, 0) := by
  obtain ⟨h1, h2, h3, h4⟩ := add_ok.1 h
  unfold addS
  rw [if_neg (by simp [h1]), if_neg (by simp [h2]), if_neg (by simp [h3]), if_neg h4]
theorem add_check {nd len : Int} {l : List TC} {x : TC} (h : (addS nd len l x).2 = 0) : checkT nd len (insT l x) = 0 := by
  obtain ⟨h1, h2, h3, h4⟩ := add_ok.1 h
  obtain ⟨a, b, c, d, e⟩ := checkT_iff.1 h1
  refine checkT_iff.2 ⟨a, b, by rw [insT_len]; omega, fun y hy => ?_, insT_sorted e h3⟩
  rcases mem_ins.1 hy with rfl | hy
  · exact h2
  · exact d y hy
/-- Removing what was added. -/
theorem rem_add {nd len : Int} {l : List TC} {x : TC} (h : (addS nd len l x).2 = 0) : remS nd len (insT l x) x = (⟨nd, len, l⟩, 0) := by
  obtain ⟨h1, h2, h3, h4⟩ := add_ok.1 h
  obtain ⟨a, b, c, d, e⟩ := checkT_iff.1 h1
  unfold remS
  rw [if_neg (by simp [add_check h]), if_pos (mem_ins.2 (.inl rfl))]
  congr 2
  refine sorted_ext (sorted_filter _ (insT_sorted e h3)) e fun y => ?_
  show y ∈ delT _ _ ↔ _
  rw [mem_del, mem_ins]
  constructor
  · rintro ⟨rfl | hy, hn⟩
    · exact absurd rfl hn
    · exact hy
  · intro hy
    exact ⟨.inr hy, fun e2 => not_found e h3 y hy (by rw [e2]; exact sameP_refl _)⟩
/-- Two cells, in either order. -/
theorem add_add {nd len : Int} {l : List TC} {c d : TC} (h : (addS nd len l c).2 = 0) (h' : (addS nd len (insT l c) d).2 = 0) :
    (addS nd len l d).2 = 0 ∧ (addS nd len (insT l d) c).2 = 0 ∧ insT (insT l c) d = insT (insT l d) c := by
  obtain ⟨h1, h2, h3, h4⟩ := add_ok.1 h
  obtain ⟨g1, g2, g3, g4⟩ := add_ok.1 h'
  obtain ⟨_, _, hl, _, e⟩ := checkT_iff.1 h1
  obtain ⟨_, _, hl2, _, e2⟩ := checkT_iff.1 g1
  rw [insT_len] at g4 hl2
  have nd1 := not_found e2 g3
  have f1 : foundT l d = false := found_false e fun y hy => nd1 y (mem_ins.2 (.inr hy))
  have hd : (addS nd len l d).2 = 0 := add_ok.2 ⟨h1, g2, f1, h4⟩
  have hs := insT_sorted e f1
  have f2 : foundT (insT l d) c = false := found_false hs fun y hy hp => by
    rcases mem_ins.1 hy with rfl | hy
    · exact nd1 c (mem_ins.2 (.inl rfl)) (sameP_symm hp)
    · exact not_found e h3 y hy hp
  refine ⟨hd, add_ok.2 ⟨add_check hd, h2, f2, by rw [insT_len]; omega⟩, sorted_ext (insT_sorted e2 g3) (insT_sorted hs f2) fun y => ?_⟩
  simp only [mem_ins]
  constructor
  · rintro (h | h | h)
    · exact .inr (.inl h)
    · exact .inl h
    · exact .inr (.inr h)
  · rintro (h | h | h)
    · exact .inr (.inl h)
    · exact .inl h
    · exact .inr (.inr h)
/-- Adding what was removed. -/
theorem add_rem {nd len : Int} {l : List TC} {x : TC} (h : checkT nd len l = 0) (hx : x ∈ l) : remS nd len l x = (⟨nd, len, delT l x⟩, 0) ∧ addS nd len (delT l x) x = (⟨nd, len, l⟩, 0) := by
  obtain ⟨a, b, c, d, e⟩ := checkT_iff.1 h
  have hs : sortedT (delT l x) := sorted_filter _ e
  have hle : (delT l x).length ≤ l.length := List.length_filter_le ..
  have hne : (delT l x).length ≠ l.length := fun q => del_len.1 q hx
  have hf : foundT (delT l x) x = false := found_false hs fun y hy hp => by
    obtain ⟨hy1, hy2⟩ := mem_del.1 hy
    obtain ⟨i, hi, rfl⟩ := mem_nth.1 hy1
    obtain ⟨j, hj, rfl⟩ := mem_nth.1 hx
    rcases Nat.lt_trichotomy i j with q | q | q
    · exact not_same (e i j q hj) hp
    · subst q; exact hy2 rfl
    · exact not_same (e j i q hi) (sameP_symm hp)
  have hc : checkT nd len (delT l x) = 0 := checkT_iff.2 ⟨a, b, by omega, fun y hy => d y (mem_del.1 hy).1, hs⟩
  have hk : (addS nd len (delT l x) x).2 = 0 := add_ok.2 ⟨hc, d x hx, hf, by omega⟩
  refine ⟨by unfold remS; rw [if_neg (by simp [h]), if_pos hx], ?_⟩
  rw [add_val hk]
  congr 2
  refine sorted_ext (insT_sorted hs hf) e fun y => ?_
  rw [mem_ins, mem_del]
  constructor
  · rintro (rfl | ⟨h, _⟩)
    · exact hx
    · exact h
  · intro hy
    by_cases q : y = x
    · exact .inl q
    · exact .inr ⟨hy, q⟩
end Go.Proofs.Ytcknakbjiklklaa.S
