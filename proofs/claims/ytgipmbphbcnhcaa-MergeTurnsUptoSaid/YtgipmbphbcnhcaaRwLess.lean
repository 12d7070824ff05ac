/- What the reference's Less returns at rows. -/
import Derived.Test.YtgipmbphbcnhcaaRwCmp
namespace Go.Proofs.Ytgipmbphbcnhcaa
open Go Go.RowKit

set_option maxHeartbeats 1000000 in
theorem refLess_any (g h : Rw) (w : World) : Calls Try.prog 10 #[rv g, rv h] w fun e w' => e = .returned (.bool (S.rlt g h)) ∧ Below w.heap.size w w' := by
  have hi := @S.rlt_iff g h
  obtain ⟨a0, a1, a2⟩ := g
  obtain ⟨b0, b1, b2⟩ := h
  simp only [] at hi
  have hb1 := (((Below.refl w.heap.size w).alloc (Nat.le_refl _) (.cells #[.string (str a0), .int .i64 a1, .string (str a2)] 29)).alloc (by simp) (.cells #[.string (str b0), .int .i64 b1, .string (str b2)] 29))
  cases h1 : blt a0 b0 with
  | true =>
    have h1' : Op.bytesLess a0 b0 = true := h1
    have hr : S.rlt (a0, a1, a2) (b0, b1, b2) = true := hi.2 (.inl h1)
    rw [hr]
    clear hr h1 hi
    go_enter Try.func10, Try.ntmps10
    go_wp2_with fail
    go_ret
    exact ⟨rfl, hb1⟩
  | false =>
    have h1' : Op.bytesLess a0 b0 = false := h1
    by_cases h2 : a0 = b0
    · have h2' : (a0 == b0) = true := by simp [h2]
      by_cases h3 : a1 < b1
      · have d3 : decide (a1 < b1) = true := by simp [h3]
        have hr : S.rlt (a0, a1, a2) (b0, b1, b2) = true := hi.2 (.inr ⟨h2, h3⟩)
        rw [hr]
        clear hr h1 hi h2 h3
        go_enter Try.func10, Try.ntmps10
        go_wp2_with fail
        go_ret
        exact ⟨rfl, hb1⟩
      · have d3 : decide (a1 < b1) = false := by simp [h3]
        have hr : S.rlt (a0, a1, a2) (b0, b1, b2) = false := by
          rw [Bool.eq_false_iff]; intro hx
          rcases hi.1 hx with k | ⟨-, k⟩
          · rw [h1] at k; cases k
          · exact h3 k
        rw [hr]
        clear hr h1 hi h2 h3
        go_enter Try.func10, Try.ntmps10
        go_wp2_with fail
        go_ret
        exact ⟨rfl, hb1⟩
    · have h2' : (a0 == b0) = false := by simp [h2]
      have hr : S.rlt (a0, a1, a2) (b0, b1, b2) = false := by
        rw [Bool.eq_false_iff]; intro hx
        rcases hi.1 hx with k | ⟨k, -⟩
        · rw [h1] at k; cases k
        · exact h2 k
      rw [hr]
      clear hr h1 hi h2
      go_enter Try.func10, Try.ntmps10
      go_wp2_with fail
      go_ret
      exact ⟨rfl, hb1⟩
end Go.Proofs.Ytgipmbphbcnhcaa
