/- Rows of the store as values, and what the reference's Same returns. -/
import Derived.BigQuiet
import Derived.Laws.StructEq
import Derived.Deep.QuietTactic
import Derived.Test.YtgipmbphbcnhcaaRows
import Derived.Test.YtgipmbphbcnhcaaThree
namespace Go.Proofs.Ytgipmbphbcnhcaa
open Go Go.RowKit

/-- A row: its key, label, value. -/
abbrev Rw : Type := List UInt8 × Int × List UInt8
def RW : Three Rw := ⟨fun r => .string (str r.1), fun r => .int .i64 r.2.1, fun r => .string (str r.2.2)⟩

theorem rw_ne (a b : Rw) (w : World) : (binOp .neq 29 (.agg #[RW.c0 a, RW.c1 a, RW.c2 a]) (.agg #[RW.c0 b, RW.c1 b, RW.c2 b])).run Try.prog w = .ok (.bool (a != b)) w := by
  have u3 := Try.underlying3
  have a3 := Try.isAgg3
  have z3 := Try.sizeOf3
  have u9 := Try.underlying9
  have a9 := Try.isAgg9
  have z9 := Try.sizeOf9
  have hS : Try.prog.underlying 29 = some (.struct (Try.prog.fieldsOf 29)) := by kernel_rfl
  have hp : Try.prog.stoodInHeld 29 = false := by kernel_rfl
  simp only [RW]
  rw [run_neq_struct, show (10000 : Nat) = 9999 + 1 from rfl, run_equalIn_agg w 9999 29 _ _ hS hp]
  simp only [Program.fieldsOf, Try.underlying29]
  obtain ⟨a0, a1, a2⟩ := a
  obtain ⟨b0, b1, b2⟩ := b
  go_simp
  by_cases h1 : a0 = b0 <;> by_cases h2 : a1 = b1 <;> by_cases h3 : a2 = b2 <;> simp [h1, h2, h3, bne]
theorem rw_guard (op : BinOp) (x y : Operand) (xs ys : Array Value) (w : World) : (eqGuard op 29 x y (.agg xs) (.agg ys)).run Try.prog w = .ok () w := run_eqGuard_agg _ _ _ _ _ _ _ (by kernel_rfl)

set_option maxHeartbeats 1000000 in
theorem rwSame_any (v1 v2 : Value) (l m : List Rw) (w : World) (h1 : RW.Ss w v1 l) (h2 : RW.Ss w v2 m) :
    Calls Try.prog 11 #[v1, v2] w fun e w' => e = .returned (.bool (l == m)) ∧ Below w.heap.size w w' := by
  have hbig := h1.len
  obtain ⟨ao1, cap1, rfl, -⟩ := h1.shape
  obtain ⟨ao2, cap2, rfl, -⟩ := h2.shape
  by_cases hlen : l.length = m.length
  · have hne : ((l.length : Int) != (m.length : Int)) = false := by rw [bne_eq_false_iff_eq]; omega
    have H1 := Lib.hid h1
    have H2 := Lib.hid h2
    clear h1 h2
    obtain ⟨N, hN⟩ : ∃ N, l.length = N := ⟨_, rfl⟩
    have hM := hlen.symm.trans hN
    rw [hN] at hne hbig H1 ⊢
    rw [hM] at hne H2 ⊢
    go_enter Try.func11, Try.ntmps11
    go_wp2_with fail
    go_loopw [5] (fun i wr => ∃ k : Nat, k ≤ N ∧ i = .int .i64 k ∧ Hid (l.take k = m.take k) ∧ Below w.heap.size w wr) (fun i _ => N - (intOf i).toNat)
    case atStart => exact ⟨0, by omega, rfl, rfl, Below.refl _ _⟩
    case round =>
      obtain ⟨k, hk, rfl, hr, hbr⟩ := hrel
      by_cases hkl : k < N
      · obtain ⟨b1, o1, rfl, hc1⟩ := (H1.out.below hbr).at (j := k) (by omega)
        obtain ⟨b2, o2, rfl, hc2⟩ := (H2.out.below hbr).at (j := k) (by omega)
        obtain ⟨p0, p1, p2⟩ := hc1 k (by omega)
        obtain ⟨q0, q1, q2⟩ := hc2 k (by omega)
        clear hc1 hc2
        have hq := rw_ne l[k] m[k]
        have hg := fun x y => rw_guard .neq x y #[RW.c0 l[k], RW.c1 l[k], RW.c2 l[k]] #[RW.c0 m[k], RW.c1 m[k], RW.c2 m[k]]
        go_wp2_with fail
        go_quiet (fail)
        cases hlm : (l[k] != m[k]) with
        | true =>
          have hfin : Hid ((l == m) = false) := by
            unfold Hid
            rw [beq_eq_false_iff_ne]
            rintro rfl
            simp at hlm
          clear p0 p1 p2 q0 q1 q2 hq hg
          go_wp2_with fail
          go_ret
          exact ⟨by rw [hfin.out]; rfl, below_next hbr (below_drewN _ _)⟩
        | false =>
          have hfin : Hid (l.take (k + 1) = m.take (k + 1)) := by
            unfold Hid
            rw [List.take_succ_eq_append_getElem (by omega), List.take_succ_eq_append_getElem (by omega), hr.out]
            rw [bne_eq_false_iff_eq] at hlm
            rw [hlm]
          clear p0 p1 p2 q0 q1 q2 hq hg
          go_wp2_with fail
          go_roundw
          case rel => exact ⟨k + 1, by omega, by go_num, hfin, below_next hbr (below_drewN _ _)⟩
          case measure => simp [intOf]; omega
      · have hfin : Hid ((l == m) = true) := by
          unfold Hid
          rw [beq_iff_eq]
          have := hr.out
          rwa [List.take_of_length_le (by omega), List.take_of_length_le (by omega)] at this
        go_wp2_with fail
        go_ret
        exact ⟨by rw [hfin.out]; rfl, hbr⟩
  · have hne : ((l.length : Int) != (m.length : Int)) = true := by rw [bne_iff_ne]; omega
    have hfin : Hid ((l == m) = false) := by
      unfold Hid
      rw [beq_eq_false_iff_ne]
      rintro rfl
      exact hlen rfl
    clear h1 h2 hlen
    go_enter Try.func11, Try.ntmps11
    go_wp2_with fail
    go_ret
    exact ⟨by rw [hfin.out]; rfl, Below.refl _ _⟩
end Go.Proofs.Ytgipmbphbcnhcaa
