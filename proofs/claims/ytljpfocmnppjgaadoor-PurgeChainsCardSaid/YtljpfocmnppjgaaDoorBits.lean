/- Numbers as sets of bits. No program. -/
namespace Go.Proofs.YtljpfocmnppjgaaDoor

/-- The number whose bits below n are those that p tells. -/
def ofBits : Nat → (Nat → Bool) → Nat
  | 0, _ => 0
  | n + 1, p => ofBits n p + if p n then 2 ^ n else 0
theorem ofBits_lt : ∀ n p, ofBits n p < 2 ^ n
  | 0, _ => by simp [ofBits]
  | n + 1, p => by
    have := ofBits_lt n p
    rw [Nat.pow_succ]
    unfold ofBits
    split <;> omega
theorem testBit_ofBits : ∀ n p i, (ofBits n p).testBit i = (decide (i < n) && p i)
  | 0, _, _ => by simp [ofBits]
  | n + 1, p, i => by
    have h := ofBits_lt n p
    have ih := testBit_ofBits n p i
    unfold ofBits
    by_cases hp : p n = true
    · rw [if_pos hp, Nat.add_comm]
      by_cases hi : i = n
      · subst hi
        rw [Nat.testBit_two_pow_add_eq, Nat.testBit_lt_two_pow h, hp]
        simp
      · by_cases hl : i < n
        · rw [Nat.testBit_two_pow_add_gt hl, ih]
          simp [hl, show i < n + 1 by omega]
        · rw [Nat.testBit_lt_two_pow (Nat.lt_of_lt_of_le (show 2 ^ n + ofBits n p < 2 ^ (n + 1) by rw [Nat.pow_succ]; omega) (Nat.pow_le_pow_right (by decide) (show n + 1 ≤ i by omega)))]
          simp [show ¬ i < n + 1 by omega]
    · have hf : p n = false := by simpa using hp
      rw [if_neg hp, Nat.add_zero, ih]
      by_cases hi : i = n
      · subst hi; simp [hf]
      · simp [show (i < n ↔ i < n + 1) by omega]
theorem ofBits_succ (n : Nat) (p : Nat → Bool) : ofBits (n + 1) p = ofBits n p + if p n then 2 ^ n else 0 := rfl
theorem ofBits_or (n : Nat) (p : Nat → Bool) : (ofBits n p ||| if p n then 2 ^ n else 0) = ofBits (n + 1) p := by
  apply Nat.eq_of_testBit_eq
  intro i
  rw [Nat.testBit_or, testBit_ofBits, testBit_ofBits]
  by_cases hp : p n = true
  · rw [if_pos hp, Nat.testBit_two_pow]
    by_cases hi : n = i
    · subst hi; simp [hp]
    · simp [hi, show (i < n + 1 ↔ i < n) by omega]
  · have hf : p n = false := by simpa using hp
    rw [if_neg hp, Nat.zero_testBit]
    by_cases hi : i = n
    · subst hi; simp [hf]
    · simp [show (i < n + 1 ↔ i < n) by omega]
theorem ofBits_congr {n : Nat} {p q : Nat → Bool} (h : ∀ i, i < n → p i = q i) : ofBits n p = ofBits n q := by
  apply Nat.eq_of_testBit_eq
  intro i
  rw [testBit_ofBits, testBit_ofBits]
  by_cases hi : i < n
  · simp [hi, h i hi]
  · simp [hi]
theorem ofBits_testBit {n x : Nat} (h : x < 2 ^ n) : ofBits n x.testBit = x := by
  apply Nat.eq_of_testBit_eq
  intro i
  rw [testBit_ofBits]
  by_cases hi : i < n
  · simp [hi]
  · rw [Nat.testBit_lt_two_pow (Nat.lt_of_lt_of_le h (Nat.pow_le_pow_right (by decide) (Nat.not_lt.1 hi)))]
    simp [hi]

/-- The bits that are 1, rising, from k on, below n. -/
def bitsFrom (x : Nat) : Nat → Nat → List Nat
  | _, 0 => []
  | k, m + 1 => if x.testBit k then k :: bitsFrom x (k + 1) m else bitsFrom x (k + 1) m
def bitsOf (x : Nat) : List Nat := bitsFrom x 0 64

theorem mem_bitsFrom (x : Nat) : ∀ m k i, i ∈ bitsFrom x k m ↔ k ≤ i ∧ i < k + m ∧ x.testBit i = true
  | 0, k, i => by simp [bitsFrom]; omega
  | m + 1, k, i => by
    have ih := mem_bitsFrom x m (k + 1) i
    unfold bitsFrom
    by_cases h : x.testBit k = true
    · rw [if_pos h, List.mem_cons, ih]
      constructor
      · rintro (rfl | ⟨h1, h2, h3⟩)
        · exact ⟨Nat.le_refl _, by omega, h⟩
        · exact ⟨by omega, by omega, h3⟩
      · rintro ⟨h1, h2, h3⟩
        by_cases hi : i = k
        · exact .inl hi
        · exact .inr ⟨by omega, by omega, h3⟩
    · rw [if_neg h, ih]
      constructor
      · rintro ⟨h1, h2, h3⟩; exact ⟨by omega, by omega, h3⟩
      · rintro ⟨h1, h2, h3⟩
        have : i ≠ k := by rintro rfl; exact h h3
        exact ⟨by omega, by omega, h3⟩
theorem mem_bitsOf {x : Nat} (hx : x < 2 ^ 64) {i : Nat} : i ∈ bitsOf x ↔ x.testBit i = true := by
  rw [bitsOf, mem_bitsFrom]
  constructor
  · exact fun h => h.2.2
  · intro h
    refine ⟨Nat.zero_le _, ?_, h⟩
    rcases Nat.lt_or_ge i 64 with h' | h'
    · omega
    · rw [Nat.testBit_lt_two_pow (Nat.lt_of_lt_of_le hx (Nat.pow_le_pow_right (by decide) h'))] at h
      cases h
end Go.Proofs.YtljpfocmnppjgaaDoor
