/- The reference's Same, where a field differs (1). -/
import Derived.Test.YtljpfocmnppjgaaDoorOp7
namespace Go.Proofs.YtljpfocmnppjgaaDoor
open Go Go.RowKit

set_option maxRecDepth 8000 in
set_option maxHeartbeats 16000000 in
theorem same_no0 (a0 b0 a1 b1 a2 b2 a3 b3 a7 b7 a8 b8 a9 b9 : Int) (a4 b4 a5 b5 a6 b6 : List UInt8) (ua va : Option Addr) (uq uc vq vc : Nat) (w : World) (d : (a0 != b0) = true) (R : Ending → World → Prop) (h : ∀ w', Below w.heap.size w w' → R (.returned (.bool false)) w') :
    Calls Tryd.prog 28 #[.agg #[.int .i64 a0, .int .i64 a1, .int .i64 a2, .int .i64 a3, .string (str a4), .string (str a5), .string (str a6), .int .i64 a7, .int .i64 a8, .int .i64 a9, .slice ua uq uc], .agg #[.int .i64 b0, .int .i64 b1, .int .i64 b2, .int .i64 b3, .string (str b4), .string (str b5), .string (str b6), .int .i64 b7, .int .i64 b8, .int .i64 b9, .slice va vq vc]] w R := by
  have hb : Below w.heap.size w ((w.alloc (.cells #[.int .i64 a0, .int .i64 a1, .int .i64 a2, .int .i64 a3, .string (str a4), .string (str a5), .string (str a6), .int .i64 a7, .int .i64 a8, .int .i64 a9, .slice ua uq uc] 34)).alloc (.cells #[.int .i64 b0, .int .i64 b1, .int .i64 b2, .int .i64 b3, .string (str b4), .string (str b5), .string (str b6), .int .i64 b7, .int .i64 b8, .int .i64 b9, .slice va vq vc] 34)) := ((Below.refl _ _).alloc (Nat.le_refl _) _).alloc (by simp) _
  have H := Lib.hid (h _ hb)
  clear h hb
  go_enter Tryd.func28, Tryd.ntmps28
  go_wp2_with fail
  exact H.out

set_option maxRecDepth 8000 in
set_option maxHeartbeats 16000000 in
theorem same_no1 (a0 a1 b1 a2 b2 a3 b3 a7 b7 a8 b8 a9 b9 : Int) (a4 b4 a5 b5 a6 b6 : List UInt8) (ua va : Option Addr) (uq uc vq vc : Nat) (w : World) (d : (a1 != b1) = true) (R : Ending → World → Prop) (h : ∀ w', Below w.heap.size w w' → R (.returned (.bool false)) w') :
    Calls Tryd.prog 28 #[.agg #[.int .i64 a0, .int .i64 a1, .int .i64 a2, .int .i64 a3, .string (str a4), .string (str a5), .string (str a6), .int .i64 a7, .int .i64 a8, .int .i64 a9, .slice ua uq uc], .agg #[.int .i64 a0, .int .i64 b1, .int .i64 b2, .int .i64 b3, .string (str b4), .string (str b5), .string (str b6), .int .i64 b7, .int .i64 b8, .int .i64 b9, .slice va vq vc]] w R := by
  have hb : Below w.heap.size w ((w.alloc (.cells #[.int .i64 a0, .int .i64 a1, .int .i64 a2, .int .i64 a3, .string (str a4), .string (str a5), .string (str a6), .int .i64 a7, .int .i64 a8, .int .i64 a9, .slice ua uq uc] 34)).alloc (.cells #[.int .i64 a0, .int .i64 b1, .int .i64 b2, .int .i64 b3, .string (str b4), .string (str b5), .string (str b6), .int .i64 b7, .int .i64 b8, .int .i64 b9, .slice va vq vc] 34)) := ((Below.refl _ _).alloc (Nat.le_refl _) _).alloc (by simp) _
  have H := Lib.hid (h _ hb)
  clear h hb
  go_enter Tryd.func28, Tryd.ntmps28
  go_wp2_with fail
  exact H.out

set_option maxRecDepth 8000 in
set_option maxHeartbeats 16000000 in
theorem same_no2 (a0 a1 a2 b2 a3 b3 a7 b7 a8 b8 a9 b9 : Int) (a4 b4 a5 b5 a6 b6 : List UInt8) (ua va : Option Addr) (uq uc vq vc : Nat) (w : World) (d : (a2 != b2) = true) (R : Ending → World → Prop) (h : ∀ w', Below w.heap.size w w' → R (.returned (.bool false)) w') :
    Calls Tryd.prog 28 #[.agg #[.int .i64 a0, .int .i64 a1, .int .i64 a2, .int .i64 a3, .string (str a4), .string (str a5), .string (str a6), .int .i64 a7, .int .i64 a8, .int .i64 a9, .slice ua uq uc], .agg #[.int .i64 a0, .int .i64 a1, .int .i64 b2, .int .i64 b3, .string (str b4), .string (str b5), .string (str b6), .int .i64 b7, .int .i64 b8, .int .i64 b9, .slice va vq vc]] w R := by
  have hb : Below w.heap.size w ((w.alloc (.cells #[.int .i64 a0, .int .i64 a1, .int .i64 a2, .int .i64 a3, .string (str a4), .string (str a5), .string (str a6), .int .i64 a7, .int .i64 a8, .int .i64 a9, .slice ua uq uc] 34)).alloc (.cells #[.int .i64 a0, .int .i64 a1, .int .i64 b2, .int .i64 b3, .string (str b4), .string (str b5), .string (str b6), .int .i64 b7, .int .i64 b8, .int .i64 b9, .slice va vq vc] 34)) := ((Below.refl _ _).alloc (Nat.le_refl _) _).alloc (by simp) _
  have H := Lib.hid (h _ hb)
  clear h hb
  go_enter Tryd.func28, Tryd.ntmps28
  go_wp2_with fail
  exact H.out

set_option maxRecDepth 8000 in
set_option maxHeartbeats 16000000 in
theorem same_no3 (a0 a1 a2 a3 b3 a7 b7 a8 b8 a9 b9 : Int) (a4 b4 a5 b5 a6 b6 : List UInt8) (ua va : Option Addr) (uq uc vq vc : Nat) (w : World) (d : (a3 != b3) = true) (R : Ending → World → Prop) (h : ∀ w', Below w.heap.size w w' → R (.returned (.bool false)) w') :
    Calls Tryd.prog 28 #[.agg #[.int .i64 a0, .int .i64 a1, .int .i64 a2, .int .i64 a3, .string (str a4), .string (str a5), .string (str a6), .int .i64 a7, .int .i64 a8, .int .i64 a9, .slice ua uq uc], .agg #[.int .i64 a0, .int .i64 a1, .int .i64 a2, .int .i64 b3, .string (str b4), .string (str b5), .string (str b6), .int .i64 b7, .int .i64 b8, .int .i64 b9, .slice va vq vc]] w R := by
  have hb : Below w.heap.size w ((w.alloc (.cells #[.int .i64 a0, .int .i64 a1, .int .i64 a2, .int .i64 a3, .string (str a4), .string (str a5), .string (str a6), .int .i64 a7, .int .i64 a8, .int .i64 a9, .slice ua uq uc] 34)).alloc (.cells #[.int .i64 a0, .int .i64 a1, .int .i64 a2, .int .i64 b3, .string (str b4), .string (str b5), .string (str b6), .int .i64 b7, .int .i64 b8, .int .i64 b9, .slice va vq vc] 34)) := ((Below.refl _ _).alloc (Nat.le_refl _) _).alloc (by simp) _
  have H := Lib.hid (h _ hb)
  clear h hb
  go_enter Tryd.func28, Tryd.ntmps28
  go_wp2_with fail
  exact H.out
end Go.Proofs.YtljpfocmnppjgaaDoor
