import Derived.Test.YtcknakbjiklklaaS10
import Derived.Test.YtcknakbjiklklaaS7
/- Of and Mask: what the law Ends says. -/
namespace Go.Proofs.Ytcknakbjiklklaa.S
open Go Go.RowKit
set_option linter.unusedVariables false
/-- Does a cell of a schedule touch a node. -/
def endP (self : Int) (c : SC) : Bool := c.fr == self || c.tt == self
theorem endP_iff (self : Int) (c : SC) : endP self c = true ↔ c.fr = self ∨ c.tt = self := by simp [endP]
theorem ofF_spec (self : Int) : ∀ (l : List SC) (acc : List TC), (ofF self acc l).2 = true →
    (∀ x ∈ (ofF self acc l).1, x ∈ acc ∨ ∃ c ∈ l, endP self c = true ∧ x = ofX self c) ∧ (ofF self acc l).1.length = acc.length + l.countP (endP self)
  | [], acc, _ => ⟨fun x hx => .inl hx, by simp [ofF]⟩
  | c :: r, acc, h => by
    simp only [ofF] at h ⊢
    by_cases h1 : c.fr = self ∨ c.tt = self
    · have he := (endP_iff self c).2 h1
      rw [if_pos h1] at h ⊢
      cases hf : foundT acc (ofX self c) with
      | true => rw [hf, if_pos rfl] at h; cases h
      | false =>
        rw [hf, if_neg (by decide)] at h
        rw [if_neg (by decide)]
        obtain ⟨a, b⟩ := ofF_spec self r _ h
        refine ⟨fun x hx => ?_, ?_⟩
        · rcases a x hx with hm | ⟨y, hy, e⟩
          · rcases mem_ins.1 hm with e | e
            · exact .inr ⟨c, by simp, he, e⟩
            · exact .inl e
          · exact .inr ⟨y, by simp [hy], e⟩
        · rw [b, insT_len, List.countP_cons_of_pos he]; omega
    · have he : ¬ endP self c = true := fun e => h1 ((endP_iff self c).1 e)
      rw [if_neg h1] at h ⊢
      obtain ⟨a, b⟩ := ofF_spec self r _ h
      refine ⟨fun x hx => ?_, ?_⟩
      · rcases a x hx with hm | ⟨y, hy, e⟩
        · exact .inl hm
        · exact .inr ⟨y, by simp [hy], e⟩
      · rw [b, List.countP_cons_of_neg he]
/-- The cell of a schedule that a control cell of a node comes from. -/
def backX (self : Int) (x : TC) : SC := if x.se = true then ⟨x.sl, x.off, self, x.pe, x.fl⟩ else ⟨x.sl, x.off, x.pe, self, x.fl⟩
theorem back_of {self : Int} {c : SC} (h : endP self c = true) : backX self (ofX self c) = c := by
  obtain ⟨a, b, f, t, g⟩ := c
  simp only [endP, Bool.or_eq_true, beq_iff_eq] at h
  unfold backX ofX
  dsimp only
  by_cases hf : f = self
  · rw [if_pos (by simp [hf]), if_pos hf, hf]
  · rw [if_neg (by simp [hf]), if_neg hf, h.resolve_left hf]
theorem ofS_cells {len offs self : Int} {l : List SC} (h : (ofS len offs l self).2 = 0) : ∀ x ∈ (ofS len offs l self).1.l, x.ki = 1 ∧ backX self x ∈ l := by
  unfold ofS at h ⊢
  by_cases h1 : rightS len offs l = false
  · rw [if_pos h1] at h; cases h
  · rw [if_neg h1] at h ⊢
    by_cases h2 : win self 0 31 = false
    · rw [if_pos h2] at h; cases h
    · rw [if_neg h2] at h ⊢
      by_cases h3 : (ofF self [] l).2 = false
      · rw [if_pos h3] at h; cases h
      · rw [if_neg h3]
        intro x hx
        obtain ⟨a, _⟩ := ofF_spec self l [] (by simpa using h3)
        rcases a x hx with e | ⟨c, hc, he, rfl⟩
        · cases e
        · exact ⟨rfl, by rw [back_of he]; exact hc⟩
theorem ofS_many {len offs self : Int} {l : List SC} (h : (ofS len offs l self).2 = 0) : (ofS len offs l self).1.l.length = l.countP (endP self) := by
  unfold ofS at h ⊢
  by_cases h1 : rightS len offs l = false
  · rw [if_pos h1] at h; cases h
  · rw [if_neg h1] at h ⊢
    by_cases h2 : win self 0 31 = false
    · rw [if_pos h2] at h; cases h
    · rw [if_neg h2] at h ⊢
      by_cases h3 : (ofF self [] l).2 = false
      · rw [if_pos h3] at h; cases h
      · rw [if_neg h3]
        have := (ofF_spec self l [] (by simpa using h3)).2
        simpa using this
/-- A node of a right schedule: its table, or a conflict. -/
theorem ofS_err {len offs self : Int} {l : List SC} (h1 : rightS len offs l = true) (h2 : 0 ≤ self ∧ self ≤ 31) (h : (ofS len offs l self).2 ≠ 0) : (ofS len offs l self).2 = 16 := by
  unfold ofS at h ⊢
  have hw : win self 0 31 = true := (win_iff _ _ _).2 h2
  rw [if_neg (by rw [h1]; decide), if_neg (by rw [hw]; decide)] at h ⊢
  by_cases h3 : (ofF self [] l).2 = false
  · rw [if_pos h3]
  · rw [if_neg h3] at h; exact absurd rfl h
/-- The ends below a node. -/
def manyS (l : List SC) (k : Int) : Nat := l.countP (fun c => decide (c.fr < k)) + l.countP (fun c => decide (c.tt < k))
theorem many_zero : ∀ {l : List SC}, (∀ c ∈ l, 0 ≤ c.fr ∧ 0 ≤ c.tt) → manyS l 0 = 0
  | [], _ => rfl
  | c :: r, h => by
    have ih := many_zero (l := r) (fun x hx => h x (by simp [hx]))
    obtain ⟨a, b⟩ := h c (by simp)
    unfold manyS at *
    rw [List.countP_cons_of_neg (by simp; omega), List.countP_cons_of_neg (by simp; omega)]
    exact ih
theorem many_all : ∀ {l : List SC}, (∀ c ∈ l, c.fr ≤ 31 ∧ c.tt ≤ 31) → manyS l 32 = 2 * l.length
  | [], _ => rfl
  | c :: r, h => by
    have ih := many_all (l := r) (fun x hx => h x (by simp [hx]))
    obtain ⟨a, b⟩ := h c (by simp)
    unfold manyS at *
    rw [List.countP_cons_of_pos (by simp; omega), List.countP_cons_of_pos (by simp; omega), List.length_cons]
    omega
theorem many_next (k : Int) : ∀ {l : List SC}, (∀ c ∈ l, c.fr ≠ c.tt) → manyS l (k + 1) = manyS l k + l.countP (endP k)
  | [], _ => rfl
  | c :: r, h => by
    have ih := many_next k (l := r) (fun x hx => h x (by simp [hx]))
    have hne := h c (by simp)
    unfold manyS at *
    simp only [List.countP_cons]
    have e : (if endP k c = true then 1 else 0) = (if c.fr = k then 1 else 0) + (if c.tt = k then 1 else 0) := by
      by_cases h1 : c.fr = k
      · have h2 : ¬ c.tt = k := fun e => hne (h1.trans e.symm)
        rw [if_pos ((endP_iff k c).2 (.inl h1)), if_pos h1, if_neg h2]
      · by_cases h2 : c.tt = k
        · rw [if_pos ((endP_iff k c).2 (.inr h2)), if_neg h1, if_pos h2]
        · rw [if_neg (fun e => ((endP_iff k c).1 e).elim h1 h2), if_neg h1, if_neg h2]
    have f : ∀ z : Int, (if decide (z < k + 1) = true then 1 else 0) = (if decide (z < k) = true then 1 else 0) + (if z = k then 1 else 0) := by
      intro z
      by_cases h1 : z < k
      · rw [if_pos (by simp; omega), if_pos (by simp [h1]), if_neg (by omega)]
      · by_cases h2 : z = k
        · rw [if_pos (by simp; omega), if_neg (by simp [h1]), if_pos h2]
        · rw [if_neg (by simp; omega), if_neg (by simp [h1]), if_neg h2]
    rw [f, f, e]
    omega
theorem testBit_clear (a j k : Nat) (ha : a < 65536) (hj : j < 64) (hk : k < 64) : (if a / 2 ^ j % 2 = 1 then a - 2 ^ j else a).testBit k = (a.testBit k && !decide (k = j)) := by
  rw [← nat_clear a j (by omega) hj, Nat.testBit_and]
  congr 1
  rw [show 18446744073709551615 - 2 ^ j = 2 ^ 64 - (2 ^ j + 1) by omega, Nat.testBit_two_pow_sub_succ (Nat.pow_lt_pow_right (by omega) hj), Nat.testBit_two_pow]
  simp [hk, eq_comm]
theorem bit_test {a : Int} (h : 0 ≤ a) (k : Nat) : bitS a k = a.toNat.testBit k := by
  obtain ⟨x, rfl⟩ := Int.eq_ofNat_of_zero_le h
  rw [Nat.testBit_eq_decide_div_mod_eq]
  unfold bitS
  rw [Int.toNat_natCast, Int.toNat_natCast, Bool.eq_iff_iff, beq_iff_eq, decide_eq_true_eq]
  have e : (x : Int) / 2 ^ k % 2 = ((x / 2 ^ k % 2 : Nat) : Int) := by simp
  rw [e]
  omega
theorem bit_clr {a j : Int} (h0 : 0 ≤ a) (h1 : a < 65536) (j0 : 0 ≤ j) (j1 : j < 16) (k : Nat) (hk : k < 16) : bitS (clrS a j) k = (bitS a k && !(j == (k : Int))) := by
  have hb := clr_bd (k := j) h0 h1
  rw [bit_test hb.1, bit_test h0]
  obtain ⟨x, rfl⟩ := Int.eq_ofNat_of_zero_le h0
  obtain ⟨q, rfl⟩ := Int.eq_ofNat_of_zero_le j0
  have e : (clrS (x : Int) (q : Int)).toNat = if x / 2 ^ q % 2 = 1 then x - 2 ^ q else x := by
    unfold clrS
    rw [bit_test h0, Int.toNat_natCast, Nat.testBit_eq_decide_div_mod_eq]
    by_cases hx : x / 2 ^ q % 2 = 1
    · rw [if_pos (by simpa using hx), if_pos hx, Int.toNat_natCast]
      have : (2 : Int) ^ q = ((2 ^ q : Nat) : Int) := by simp
      rw [this]
      omega
    · rw [if_neg (by simpa using hx), if_neg hx, Int.toNat_natCast]
  rw [e, testBit_clear x q k (by omega) (by omega) (by omega), Int.toNat_natCast]
  congr 2
  rw [Bool.eq_iff_iff, decide_eq_true_eq, beq_iff_eq]
  omega
theorem bit_full {n : Int} (h0 : 0 ≤ n) (h1 : n ≤ 16) (k : Nat) : bitS (2 ^ n.toNat - 1) k = decide ((k : Int) < n) := by
  obtain ⟨q, rfl⟩ := Int.eq_ofNat_of_zero_le h0
  have hp : 0 < 2 ^ q := Nat.two_pow_pos q
  have e : (2 : Int) ^ (q : Int).toNat - 1 = ((2 ^ q - 1 : Nat) : Int) := by
    rw [Int.toNat_natCast]
    have : (2 : Int) ^ q = ((2 ^ q : Nat) : Int) := by simp
    rw [this]; omega
  rw [e, bit_test (by omega), Int.toNat_natCast, Nat.testBit_two_pow_sub_one]
  simp
theorem nth_set {α : Type} [Inhabited α] (l : List α) (i j : Nat) (x : α) (hj : j < l.length) : nth (l.set i x) j = if i = j then x else nth l j := by
  rw [nth_eq _ _ (by simpa using hj), List.getElem_set, nth_eq l j hj]
theorem maskF_len : ∀ (l : List SC) (f : List Int), (maskF f l).length = f.length
  | [], f => rfl
  | c :: r, f => by simp only [maskF]; rw [maskF_len r]; simp
theorem maskF_bd : ∀ (l : List SC) (f : List Int), (∀ c ∈ l, 0 ≤ c.sl ∧ c.sl < (f.length : Int)) → (∀ j, j < f.length → 0 ≤ nth f j ∧ nth f j < 65536) → ∀ j, j < f.length → 0 ≤ nth (maskF f l) j ∧ nth (maskF f l) j < 65536
  | [], f, _, h => h
  | c :: r, f, hc, h => by
    intro j hj
    obtain ⟨c0, c1⟩ := hc c (by simp)
    simp only [maskF]
    refine maskF_bd r _ (fun x hx => by simpa using hc x (by simp [hx])) (fun i hi => ?_) j (by simpa using hj)
    rw [List.length_set] at hi
    rw [nth_set _ _ _ _ hi]
    split
    · obtain ⟨a, b⟩ := h c.sl.toNat (by omega)
      exact clr_bd a b
    · exact h i hi
theorem maskF_bit : ∀ (l : List SC) (f : List Int) (s k : Nat), (∀ c ∈ l, (0 ≤ c.sl ∧ c.sl < (f.length : Int)) ∧ 0 ≤ c.off ∧ c.off < 16) → (∀ j, j < f.length → 0 ≤ nth f j ∧ nth f j < 65536) → s < f.length → k < 16 →
    bitS (nth (maskF f l) s) k = (bitS (nth f s) k && !l.any fun c => c.sl == (s : Int) && c.off == (k : Int))
  | [], f, s, k, _, _, _, _ => by simp [maskF]
  | c :: r, f, s, k, hc, h, hs, hk => by
    obtain ⟨⟨c0, c1⟩, c2, c3⟩ := hc c (by simp)
    obtain ⟨a, b⟩ := h c.sl.toNat (by omega)
    simp only [maskF]
    rw [maskF_bit r _ s k (fun x hx => by simpa using hc x (by simp [hx])) (fun i hi => by
      rw [List.length_set] at hi
      rw [nth_set _ _ _ _ hi]
      split
      · exact clr_bd a b
      · exact h i hi) (by simpa using hs) hk, nth_set _ _ _ _ hs, List.any_cons, Bool.not_or]
    by_cases e : c.sl.toNat = s
    · rw [if_pos e, e, bit_clr (h s hs).1 (h s hs).2 c2 c3 k hk]
      have : (c.sl == (s : Int)) = true := by rw [beq_iff_eq]; omega
      rw [this, Bool.true_and, Bool.and_assoc]
    · rw [if_neg e]
      have : (c.sl == (s : Int)) = false := by rw [beq_eq_false_iff_ne]; omega
      rw [this, Bool.false_and, Bool.not_false, Bool.true_and]
/-- Is a place taken by a cell of a schedule. -/
def usedP (l : List SC) (s k : Int) : Bool := l.any fun c => c.sl == s && c.off == k
theorem mask_bits {len offs : Int} {l : List SC} (h : rightS len offs l = true) (hb : ∀ c ∈ l, (0 ≤ c.sl ∧ c.sl < len) ∧ (0 ≤ c.off ∧ c.off < offs)) (hl : 1 ≤ len ∧ len ≤ 512) (ho : 1 ≤ offs ∧ offs ≤ 16) :
    (maskS len offs l).2 = 0 ∧ ((maskS len offs l).1.length : Int) = len ∧ (∀ j, j < (maskS len offs l).1.length → 0 ≤ nth (maskS len offs l).1 j ∧ nth (maskS len offs l).1 j < 65536) ∧
    ∀ s k : Nat, s < (maskS len offs l).1.length → k < 16 → bitS (nth (maskS len offs l).1 s) k = (decide ((k : Int) < offs) && !usedP l s k) := by
  have e : maskS len offs l = (maskF (List.replicate len.toNat (2 ^ offs.toNat - 1)) l, 0) := by unfold maskS; rw [if_neg (by rw [h]; decide)]
  have hp : (1 : Int) ≤ 2 ^ offs.toNat ∧ (2 : Int) ^ offs.toNat ≤ 65536 := by
    rw [pow16z]
    have : (2 : Nat) ^ offs.toNat ≤ 2 ^ 16 := Nat.pow_le_pow_right (by omega) (by omega)
    have h0 : 0 < (2 : Nat) ^ offs.toNat := Nat.two_pow_pos _
    have h2 : (2 : Nat) ^ 16 = 65536 := rfl
    rw [h2] at this
    generalize (2 : Nat) ^ offs.toNat = P at *
    omega
  rw [e]
  dsimp only
  have hn : ∀ j, j < (List.replicate len.toNat (2 ^ offs.toNat - 1 : Int)).length → nth (List.replicate len.toNat (2 ^ offs.toNat - 1 : Int)) j = 2 ^ offs.toNat - 1 := fun j hj => by rw [nth_eq _ _ hj, List.getElem_replicate]
  have hlen : (List.replicate len.toNat (2 ^ offs.toNat - 1 : Int)).length = len.toNat := List.length_replicate
  have hbd : ∀ j, j < (List.replicate len.toNat (2 ^ offs.toNat - 1 : Int)).length → 0 ≤ nth (List.replicate len.toNat (2 ^ offs.toNat - 1 : Int)) j ∧ nth (List.replicate len.toNat (2 ^ offs.toNat - 1 : Int)) j < 65536 := fun j hj => by rw [hn j hj]; omega
  refine ⟨rfl, by rw [maskF_len, hlen]; omega, fun j hj => ?_, fun s k hs hk => ?_⟩
  · rw [maskF_len] at hj
    exact maskF_bd l _ (fun c hc => by rw [hlen]; have := (hb c hc).1; omega) hbd j hj
  · rw [maskF_len] at hs
    rw [maskF_bit l _ s k (fun c hc => by rw [hlen]; have := hb c hc; omega) hbd hs hk, hn s hs, bit_full (by omega) (by omega)]
    rfl
end Go.Proofs.Ytcknakbjiklklaa.S
