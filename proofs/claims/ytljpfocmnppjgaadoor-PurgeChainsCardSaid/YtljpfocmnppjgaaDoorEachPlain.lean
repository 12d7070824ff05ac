/- The lowest bit that is 1, taken away. No program. -/
import Derived.Test.YtljpfocmnppjgaaDoorBits
import Derived.Lib.TrailingZeros
namespace Go.Proofs.YtljpfocmnppjgaaDoor
open Go

theorem low_form {y : Nat} (h0 : y ≠ 0) (h : y < 2 ^ 64) : ∃ m, y = 2 ^ Lib.ctz 64 y * (2 * m + 1) ∧ Lib.ctz 64 y < 64 := by
  obtain ⟨m, hm, hk⟩ := Lib.ctzFrom_spec 64 y (by omega) h
  have e : Lib.ctz 64 y = Lib.ctzFrom 64 y := by simp [Lib.ctz, h0]
  rw [e]
  exact ⟨m, hm, hk⟩
theorem testBit_low (k m i : Nat) : (2 ^ k * (2 * m + 1)).testBit i = (decide (k = i) || (decide (k < i) && m.testBit (i - k - 1))) := by
  rw [Nat.testBit_two_pow_mul]
  by_cases h : k ≤ i
  · by_cases he : k = i
    · subst he; simp
    · obtain ⟨j, rfl⟩ : ∃ j, i = k + (j + 1) := ⟨i - k - 1, by omega⟩
      rw [show k + (j + 1) - k = j + 1 by omega, Nat.testBit_succ, show (2 * m + 1) / 2 = m by omega]
      simp [show k < k + (j + 1) by omega]
  · simp [h, show ¬ k = i by omega, show ¬ k < i by omega]
theorem testBit_less (k m i : Nat) : (2 ^ k * (2 * m + 1) - 1).testBit i = (decide (i < k) || (decide (k < i) && m.testBit (i - k - 1))) := by
  have e : 2 ^ k * (2 * m + 1) - 1 = 2 ^ k * (2 * m) + (2 ^ k - 1) := by
    have := Nat.two_pow_pos k
    rw [Nat.mul_add, Nat.mul_one]
    omega
  rw [e, Nat.testBit_two_pow_mul_add _ (by have := Nat.two_pow_pos k; omega), Nat.testBit_two_pow_sub_one]
  by_cases h : i < k
  · simp [h]
  · by_cases he : k = i
    · subst he; simp [Nat.testBit_zero]
    · obtain ⟨j, rfl⟩ : ∃ j, i = k + (j + 1) := ⟨i - k - 1, by omega⟩
      rw [if_neg h, show k + (j + 1) - k = j + 1 by omega, Nat.testBit_succ, show 2 * m / 2 = m by omega]
      simp [show ¬ k + (j + 1) < k by omega, show k < k + (j + 1) by omega]
/-- y & (y - 1): the lowest bit is gone, and no other. -/
theorem testBit_clear {y : Nat} (h0 : y ≠ 0) (h : y < 2 ^ 64) (i : Nat) : (y &&& (y - 1)).testBit i = (y.testBit i && !decide (i = Lib.ctz 64 y)) := by
  obtain ⟨m, hm, -⟩ := low_form h0 h
  generalize Lib.ctz 64 y = k at *
  subst hm
  rw [Nat.testBit_and, testBit_low, testBit_less]
  by_cases h1 : i < k
  · simp [show ¬ k = i by omega, show ¬ k < i by omega]
  · by_cases h2 : k = i
    · subst h2; simp
    · simp [h1, h2, show k < i by omega, show ¬ i = k by omega]
theorem testBit_ctz {y : Nat} (h0 : y ≠ 0) (h : y < 2 ^ 64) : y.testBit (Lib.ctz 64 y) = true ∧ ∀ i, i < Lib.ctz 64 y → y.testBit i = false := by
  obtain ⟨m, hm, -⟩ := low_form h0 h
  generalize Lib.ctz 64 y = k at *
  subst hm
  exact ⟨by rw [testBit_low]; simp, fun i hi => by rw [testBit_low]; simp [show ¬ k = i by omega, show ¬ k < i by omega]⟩
theorem bitsFrom_skip {y z k : Nat} (hk : y.testBit k = true) (hlow : ∀ i, i < k → y.testBit i = false) (hz : ∀ i, z.testBit i = (y.testBit i && !decide (i = k))) :
    ∀ m j, (k < j → bitsFrom z j m = bitsFrom y j m) ∧ (j ≤ k → k < j + m → bitsFrom y j m = k :: bitsFrom z j m)
  | 0, j => ⟨fun _ => rfl, fun h1 h2 => by omega⟩
  | m + 1, j => by
    obtain ⟨ih1, ih2⟩ := bitsFrom_skip hk hlow hz m (j + 1)
    refine ⟨fun h => ?_, fun h1 h2 => ?_⟩
    · unfold bitsFrom
      rw [hz, ih1 (by omega)]
      simp [show ¬ j = k by omega]
    · by_cases he : j = k
      · subst he
        unfold bitsFrom
        rw [hz, hk, ih1 (by omega)]
        simp
      · unfold bitsFrom
        rw [hz, hlow j (by omega), ih2 (by omega) (by omega)]
        simp
theorem bitsOf_step {y : Nat} (h0 : y ≠ 0) (h : y < 2 ^ 64) : bitsOf y = Lib.ctz 64 y :: bitsOf (y &&& (y - 1)) := by
  obtain ⟨h1, h2⟩ := testBit_ctz h0 h
  obtain ⟨_, _, hk⟩ := low_form h0 h
  exact (bitsFrom_skip h1 h2 (testBit_clear h0 h) 64 0).2 (Nat.zero_le _) (by omega)
theorem bitsOf_zero : bitsOf 0 = [] := by decide
theorem clear_lt {y : Nat} (h : y < 2 ^ 64) : y &&& (y - 1) < 2 ^ 64 := Nat.lt_of_le_of_lt Nat.and_le_left h
theorem bitsOf_length (x : Nat) : (bitsOf x).length ≤ 64 := go x 64 0
where go (x : Nat) : ∀ m j, (bitsFrom x j m).length ≤ m
  | 0, _ => Nat.le_refl _
  | m + 1, j => by
    unfold bitsFrom
    have := go x m (j + 1)
    split
    · rw [List.length_cons]; omega
    · omega
theorem bitsOf_lt {x i : Nat} (h : i ∈ bitsOf x) : i < 64 := by
  rw [bitsOf, mem_bitsFrom] at h
  omega
end Go.Proofs.YtljpfocmnppjgaaDoor
