/- The example of layer 3 answers as the document says. -/
import Derived.Test.YtnfhhhcbgipmcaaDoorCheck
import Derived.Test.YtnfhhhcbgipmcaaDoorList
import Derived.Test.YtnfhhhcbgipmcaaDoorLat2
namespace Go.Proofs.YtnfhhhcbgipmcaaDoor
open Go Go.RowKit

theorem exTrans : ∀ a, a < 2 → ∀ b, b < 2 → ∀ c, c < 2 → L.bit [3, 2] a b = true → L.bit [3, 2] b c = true → L.bit [3, 2] a c = true := by decide
theorem exAnti : ∀ a, a < 2 → ∀ b, b < 2 → L.bit [3, 2] a b = true → L.bit [3, 2] b a = true → a = b := by decide
theorem exJoins : ∀ a, a < 2 → ∀ b, b < a → 0 ≤ L.join [3, 2] (a : Nat) (b : Nat) := by decide
theorem exMeets : ∀ a, a < 2 → ∀ b, b < a → 0 ≤ L.meet [3, 2] (a : Nat) (b : Nat) := by decide
theorem exCheck : L.check [3, 2] = true := L.check_iff.2 ⟨by decide, by decide, ⟨by decide, by decide, fun a b c ha hb hc => exTrans a ha b hb c hc⟩, fun a b ha hb => exAnti a ha b hb, fun a b ha hb => exJoins a ha b hb, fun a b ha hb => exMeets a ha b hb⟩
theorem exNot : L.check [1, 2] = false := L.check_no_bound (a := 1) (b := 0) (by decide) (by decide) (by decide)
theorem exJoin : L.join [3, 2] 0 1 = 1 := by decide
theorem exMeet : L.meet [3, 2] 0 1 = 0 := by decide
theorem exDown : L.down [3, 2] 1 = 3 := by decide
theorem exLeq : L.leq [3, 2] 0 1 = true := by decide
theorem exNotLeq : L.leq [3, 2] 1 0 = false := by decide
theorem exBits : bitsOf 5 = [0, 2] := by decide
theorem exSmall : U64s [3, 2] := show ∀ x ∈ [3, 2], x < 18446744073709551616 by decide
theorem exSmall2 : U64s [1, 2] := show ∀ x ∈ [1, 2], x < 18446744073709551616 by decide

theorem Is.lit {w : World} {e : TypeId} {fz : Nat × Nat} {vs : Array Value} (us : List Nat) (n : Nat) (hn : us.length = n) (h : n ≤ maxLen) (hv : vs = (intCells us).toArray) : Is (w.alloc (.cells vs e fz)) (.slice (some ⟨w.heap.size, 0, none⟩) n n) us := by
  have := Sl.lit w e 1 n vs fz (by rw [hv]; simp [intCells, hn]) h
  subst hn hv
  exact this

set_option maxRecDepth 4000 in
set_option maxHeartbeats 1000000 in
theorem aw3_any (w : World) (ht : DTab w) :
    Calls Tryd.prog 14 #[] w fun e w' => e = .returned (.bool true) ∧ Below w.heap.size w w' := by
  have hb1 : Below w.heap.size w (w.alloc (.cells #[.int .u64 3, .int .u64 2] 25)) := (Below.refl _ _).alloc (Nat.le_refl _) _
  have hu1 : Us (w.alloc (.cells #[.int .u64 3, .int .u64 2] 25)) (.slice (some ⟨w.heap.size, 0, none⟩) 2 2) [3, 2] := Us.lit [3, 2] 2 rfl (by decide) rfl
  go_enter Tryd.func14, Tryd.ntmps14
  go_wp2_with fail
  generalize w.alloc (.cells #[.int .u64 3, .int .u64 2] 25) = w1 at *
  obtain ⟨B, hB⟩ : ∃ B, w.heap.size = B := ⟨_, rfl⟩
  rw [hB] at hu1 ⊢
  replace hB := Lib.hid hB
  have H1 := Lib.hid (check_any _ _ w1 hu1 exSmall (ht.below hb1))
  rw [exCheck] at H1
  refine H1.out.mono ?_
  rintro e w2 ⟨rfl, hb⟩
  have hb2 := below_next hb1 hb
  have hu2 := hu1.below hb
  clear H1 hb hb1 hu1
  have hb3 : Below w.heap.size w (w2.alloc (.cells #[.int .u64 1, .int .u64 2] 25)) := hb2.alloc hb2.size _
  have hu3 := hu2.below ((Below.refl _ _).alloc (Nat.le_refl _) (.cells #[.int .u64 1, .int .u64 2] 25))
  have hn3 : Us (w2.alloc (.cells #[.int .u64 1, .int .u64 2] 25)) (.slice (some ⟨w2.heap.size, 0, none⟩) 2 2) [1, 2] := Us.lit [1, 2] 2 rfl (by decide) rfl
  clear hb2 hu2
  go_wp2_with fail
  have H2 := Lib.hid (check_any _ _ _ hn3 exSmall2 (ht.below hb3))
  rw [exNot] at H2
  refine H2.out.mono ?_
  rintro e w4 ⟨rfl, hb⟩
  have hb4 := below_next hb3 hb
  have hu4 := hu3.below hb
  clear H2 hb hb3 hu3 hn3
  go_wp2_with fail
  have H3 := Lib.hid (join_any _ _ 0 1 w4 hu4 exSmall (ht.below hb4))
  rw [exJoin] at H3
  refine H3.out.mono ?_
  rintro e w5 ⟨rfl, hb⟩
  have hb5 := below_next hb4 hb
  have hu5 := hu4.below hb
  clear H3 hb hb4 hu4
  go_wp2_with fail
  have H4 := Lib.hid (meet_any _ _ 0 1 w5 hu5 exSmall (ht.below hb5))
  rw [exMeet] at H4
  refine H4.out.mono ?_
  rintro e w6 ⟨rfl, hb⟩
  have hb6 := below_next hb5 hb
  have hu6 := hu5.below hb
  clear H4 hb hb5 hu5
  go_wp2_with fail
  have H5 := Lib.hid (down_any _ _ 1 w6 hu6 exSmall)
  rw [exDown] at H5
  refine H5.out.mono ?_
  rintro e w7 ⟨rfl, rfl⟩
  clear H5
  go_wp2_with fail
  have H6 := Lib.hid (leq_any _ _ 0 1 w6 hu6 exSmall)
  rw [exLeq] at H6
  refine H6.out.mono ?_
  rintro e w7 ⟨rfl, rfl⟩
  clear H6
  go_wp2_with fail
  have H7 := Lib.hid (leq_any _ _ 1 0 w6 hu6 exSmall)
  rw [exNotLeq] at H7
  refine H7.out.mono ?_
  rintro e w7 ⟨rfl, rfl⟩
  clear H7
  go_wp2_with fail
  refine (list_any 5 (by decide) w6 (ht.below hb6)).mono ?_
  rintro e w7 ⟨v7, rfl, hown, hb⟩
  rw [exBits] at hown
  have hb7 := (below_next hb6 hb)
  have hb8 : Below w.heap.size w (w7.alloc (.cells #[.int .i64 0, .int .i64 2] 3)) := hb7.alloc hb7.size _
  have hi8 := (Is.of_owns hown).below ((Below.refl _ _).alloc (Nat.le_refl _) (.cells #[.int .i64 0, .int .i64 2] 3))
  have hn8 : Is (w7.alloc (.cells #[.int .i64 0, .int .i64 2] 3)) (.slice (some ⟨w7.heap.size, 0, none⟩) 2 2) [0, 2] := Is.lit [0, 2] 2 rfl (by decide) rfl
  clear hown hb hb7 hb6 hu6
  go_wp2_with fail
  refine (ints_any _ _ _ _ _ hi8 hn8).mono ?_
  rintro e w9 ⟨rfl, hb⟩
  have hb9 := below_next hb8 hb
  rw [show (([0, 2] : List Nat) == [0, 2]) = true from rfl]
  clear hb hb8 hi8 hn8
  go_wp2_with fail
  go_ret
  exact ⟨rfl, hb9⟩
end Go.Proofs.YtnfhhhcbgipmcaaDoor
