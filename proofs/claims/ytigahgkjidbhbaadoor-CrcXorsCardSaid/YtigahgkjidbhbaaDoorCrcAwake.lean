/- The document's example holds: awake returns true. -/
import Derived.Test.YtigahgkjidbhbaaDoorCrcOpen
import Derived.Test.YtigahgkjidbhbaaDoorRefCrcTop
namespace Go.Proofs.YtigahgkjidbhbaaDoor
open Go Go.RowKit

def digits : List UInt8 := [49, 50, 51, 52, 53, 54, 55, 56, 57]
theorem of_digits : C.of digits = 3421780262 := by decide +kernel
theorem of_digits2 : C.on (C.of [49, 50, 51, 52]) [53, 54, 55, 56, 57] = 3421780262 := by decide +kernel

theorem isTag_short : C.isTag [1, 2, 3] = false := by decide
theorem fits9 : (9 : Nat) ≤ maxLen := by decide
theorem fits5 : (5 : Nat) ≤ maxLen := by decide
theorem fits4 : (4 : Nat) ≤ maxLen := by decide
theorem fits3 : (3 : Nat) ≤ maxLen := by decide
theorem cells9 : (#[.int .u8 49, .int .u8 50, .int .u8 51, .int .u8 52, .int .u8 53, .int .u8 54, .int .u8 55, .int .u8 56, .int .u8 57] : Array Value) = (byteCells digits).toArray := rfl
theorem cells4 : (#[.int .u8 49, .int .u8 50, .int .u8 51, .int .u8 52] : Array Value) = (byteCells [49, 50, 51, 52]).toArray := rfl
theorem cells5 : (#[.int .u8 53, .int .u8 54, .int .u8 55, .int .u8 56, .int .u8 57] : Array Value) = (byteCells [53, 54, 55, 56, 57]).toArray := rfl
theorem cells3 : (#[.int .u8 1, .int .u8 2, .int .u8 3] : Array Value) = (byteCells [1, 2, 3]).toArray := rfl
/-- A new block behind what a call left. -/
theorem below_new {w w1 : World} (h : Below w.heap.size w w1) (o : Obj) : Below w.heap.size w (w1.alloc o) := h.alloc h.size o
theorem Bs.next {w : World} {v : Value} {l : List UInt8} (h : Bs w v l) (o : Obj) : Bs (w.alloc o) v l := h.below ((Below.refl _ _).alloc (Nat.le_refl _) o)

set_option maxHeartbeats 1000000 in
theorem awake_any (w : World) (ht : Tab w) :
    Calls Tryd.prog 8 #[] w fun e w' => e = .returned (.bool true) ∧ Below w.heap.size w w' := by
  have kc := fun (w : World) (C : Array Value) (n c : Nat) => Lib.run_convert_bytes_const (P := Tryd.prog) w 22 5 C n c Tryd.underlying22 Tryd.underlying5
  go_enter Tryd.func8, Tryd.ntmps8
  go_wp2_with fail
  refine (tag_any _ digits _ (Bs.lit digits 9 rfl fits9 cells9) (ht.below (below_new (Below.refl _ w) _)) (by decide)).mono ?_
  rintro e w1 ⟨v1, rfl, hown1, hbel⟩
  have hb1 := below_next (below_new (Below.refl _ w) _) hbel
  have HB1 := Bs.of_owns hown1
  clear hbel hown1
  go_wp2_with fail
  refine (open_any v1 _ w1 HB1 (ht.below hb1) (by rw [C.tag_length]; decide)).mono ?_
  rintro e w2 ⟨v2, rfl, HB2, hbel⟩
  have hb2 := below_next hb1 hbel
  rw [C.opened_tag] at HB2
  rw [C.isTag_tag]
  clear hbel hb1 HB1
  go_wp2_with fail
  refine (open_any _ [1, 2, 3] _ (Bs.lit [1, 2, 3] 3 rfl fits3 cells3) (ht.below (below_new hb2 _)) (by decide)).mono ?_
  rintro e w3 ⟨v3, rfl, -, hbel⟩
  have hb3 := below_next (below_new hb2 _) hbel
  have HB3 := (HB2.next _).below hbel
  rw [isTag_short]
  clear hbel hb2 HB2
  go_wp2_with fail
  refine (of_any _ digits _ (Bs.lit digits 9 rfl fits9 cells9) (ht.below (below_new hb3 _))).mono ?_
  rintro e w4 ⟨rfl, hw4⟩
  have hb4 := below_new hb3 (.cells #[.int .u8 49, .int .u8 50, .int .u8 51, .int .u8 52, .int .u8 53, .int .u8 54, .int .u8 55, .int .u8 56, .int .u8 57] 5 (9, 10))
  have HB4 := HB3.next (.cells #[.int .u8 49, .int .u8 50, .int .u8 51, .int .u8 52, .int .u8 53, .int .u8 54, .int .u8 55, .int .u8 56, .int .u8 57] 5 (9, 10))
  have e4 : w3.alloc (.cells #[.int .u8 49, .int .u8 50, .int .u8 51, .int .u8 52, .int .u8 53, .int .u8 54, .int .u8 55, .int .u8 56, .int .u8 57] 5 (9, 10)) = w4 := hw4
  rw [e4] at hb4 HB4
  clear hw4 e4 hb3 HB3
  rw [of_digits]
  go_wp2_with fail
  refine (of_any _ [49, 50, 51, 52] _ (Bs.lit [49, 50, 51, 52] 4 rfl fits4 cells4) (ht.below (below_new hb4 _))).mono ?_
  rintro e w5 ⟨rfl, hw5⟩
  have hb5 := below_new hb4 (.cells #[.int .u8 49, .int .u8 50, .int .u8 51, .int .u8 52] 5 (4, 5))
  have HB5 := HB4.next (.cells #[.int .u8 49, .int .u8 50, .int .u8 51, .int .u8 52] 5 (4, 5))
  have e5 : w4.alloc (.cells #[.int .u8 49, .int .u8 50, .int .u8 51, .int .u8 52] 5 (4, 5)) = w5 := hw5
  rw [e5] at hb5 HB5
  clear hw5 e5 hb4 HB4
  go_wp2_with fail
  refine (on_any _ (C.of_lt _) _ [53, 54, 55, 56, 57] _ (Bs.lit [53, 54, 55, 56, 57] 5 rfl fits5 cells5) (ht.below (below_new hb5 _))).mono ?_
  rintro e w6 ⟨rfl, hw6⟩
  have hb6 := below_new hb5 (.cells #[.int .u8 53, .int .u8 54, .int .u8 55, .int .u8 56, .int .u8 57] 5 (5, 6))
  have HB6 := HB5.next (.cells #[.int .u8 53, .int .u8 54, .int .u8 55, .int .u8 56, .int .u8 57] 5 (5, 6))
  have e6 : w5.alloc (.cells #[.int .u8 53, .int .u8 54, .int .u8 55, .int .u8 56, .int .u8 57] 5 (5, 6)) = w6 := hw6
  rw [e6] at hb6 HB6
  clear hw6 e6 hb5 HB5
  rw [of_digits2]
  have hstr := run_str Tryd.underlying22 Tryd.underlying5 Tryd.underlying9 HB6
  have hst : str digits = ⟨#[49, 50, 51, 52, 53, 54, 55, 56, 57]⟩ := rfl
  rw [hst] at hstr
  clear hst
  go_wp2_with fail
  go_ret
  exact ⟨rfl, hb6⟩
end Go.Proofs.YtigahgkjidbhbaaDoor
