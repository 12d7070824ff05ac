/- The reference's Same, where a field differs (2). -/
import Derived.Test.YtljpfocmnppjgaaDoorOp7
namespace Go.Proofs.YtljpfocmnppjgaaDoor
open Go Go.RowKit

set_option maxRecDepth 8000 in
set_option maxHeartbeats 16000000 in
theorem same_no4 (a0 a1 a2 a3 a7 b7 a8 b8 a9 b9 : Int) (a4 b4 a5 b5 a6 b6 : List UInt8) (ua va : Option Addr) (uq uc vq vc : Nat) (w : World) (d : (a4 == b4) = false) (R : Ending → World → Prop) (h : ∀ w', Below w.heap.size w w' → R (.returned (.bool false)) w') :
    Calls Tryd.prog 28 #[.agg #[.int .i64 a0, .int .i64 a1, .int .i64 a2, .int .i64 a3, .string (str a4), .string (str a5), .string (str a6), .int .i64 a7, .int .i64 a8, .int .i64 a9, .slice ua uq uc], .agg #[.int .i64 a0, .int .i64 a1, .int .i64 a2, .int .i64 a3, .string (str b4), .string (str b5), .string (str b6), .int .i64 b7, .int .i64 b8, .int .i64 b9, .slice va vq vc]] w R := by
  have hb : Below w.heap.size w ((w.alloc (.cells #[.int .i64 a0, .int .i64 a1, .int .i64 a2, .int .i64 a3, .string (str a4), .string (str a5), .string (str a6), .int .i64 a7, .int .i64 a8, .int .i64 a9, .slice ua uq uc] 34)).alloc (.cells #[.int .i64 a0, .int .i64 a1, .int .i64 a2, .int .i64 a3, .string (str b4), .string (str b5), .string (str b6), .int .i64 b7, .int .i64 b8, .int .i64 b9, .slice va vq vc] 34)) := ((Below.refl _ _).alloc (Nat.le_refl _) _).alloc (by simp) _
  have H := Lib.hid (h _ hb)
  clear h hb
  go_enter Tryd.func28, Tryd.ntmps28
  go_wp2_with fail
  exact H.out

set_option maxRecDepth 8000 in
set_option maxHeartbeats 16000000 in
theorem same_no5 (a0 a1 a2 a3 a7 b7 a8 b8 a9 b9 : Int) (a4 a5 b5 a6 b6 : List UInt8) (ua va : Option Addr) (uq uc vq vc : Nat) (w : World) (d : (a5 == b5) = false) (R : Ending → World → Prop) (h : ∀ w', Below w.heap.size w w' → R (.returned (.bool false)) w') :
    Calls Tryd.prog 28 #[.agg #[.int .i64 a0, .int .i64 a1, .int .i64 a2, .int .i64 a3, .string (str a4), .string (str a5), .string (str a6), .int .i64 a7, .int .i64 a8, .int .i64 a9, .slice ua uq uc], .agg #[.int .i64 a0, .int .i64 a1, .int .i64 a2, .int .i64 a3, .string (str a4), .string (str b5), .string (str b6), .int .i64 b7, .int .i64 b8, .int .i64 b9, .slice va vq vc]] w R := by
  have hb : Below w.heap.size w ((w.alloc (.cells #[.int .i64 a0, .int .i64 a1, .int .i64 a2, .int .i64 a3, .string (str a4), .string (str a5), .string (str a6), .int .i64 a7, .int .i64 a8, .int .i64 a9, .slice ua uq uc] 34)).alloc (.cells #[.int .i64 a0, .int .i64 a1, .int .i64 a2, .int .i64 a3, .string (str a4), .string (str b5), .string (str b6), .int .i64 b7, .int .i64 b8, .int .i64 b9, .slice va vq vc] 34)) := ((Below.refl _ _).alloc (Nat.le_refl _) _).alloc (by simp) _
  have H := Lib.hid (h _ hb)
  clear h hb
  go_enter Tryd.func28, Tryd.ntmps28
  go_wp2_with fail
  exact H.out

set_option maxRecDepth 8000 in
set_option maxHeartbeats 16000000 in
theorem same_no6 (a0 a1 a2 a3 a7 b7 a8 b8 a9 b9 : Int) (a4 a5 a6 b6 : List UInt8) (ua va : Option Addr) (uq uc vq vc : Nat) (w : World) (d : (a6 == b6) = false) (R : Ending → World → Prop) (h : ∀ w', Below w.heap.size w w' → R (.returned (.bool false)) w') :
    Calls Tryd.prog 28 #[.agg #[.int .i64 a0, .int .i64 a1, .int .i64 a2, .int .i64 a3, .string (str a4), .string (str a5), .string (str a6), .int .i64 a7, .int .i64 a8, .int .i64 a9, .slice ua uq uc], .agg #[.int .i64 a0, .int .i64 a1, .int .i64 a2, .int .i64 a3, .string (str a4), .string (str a5), .string (str b6), .int .i64 b7, .int .i64 b8, .int .i64 b9, .slice va vq vc]] w R := by
  have hb : Below w.heap.size w ((w.alloc (.cells #[.int .i64 a0, .int .i64 a1, .int .i64 a2, .int .i64 a3, .string (str a4), .string (str a5), .string (str a6), .int .i64 a7, .int .i64 a8, .int .i64 a9, .slice ua uq uc] 34)).alloc (.cells #[.int .i64 a0, .int .i64 a1, .int .i64 a2, .int .i64 a3, .string (str a4), .string (str a5), .string (str b6), .int .i64 b7, .int .i64 b8, .int .i64 b9, .slice va vq vc] 34)) := ((Below.refl _ _).alloc (Nat.le_refl _) _).alloc (by simp) _
  have H := Lib.hid (h _ hb)
  clear h hb
  go_enter Tryd.func28, Tryd.ntmps28
  go_wp2_with fail
  exact H.out

set_option maxRecDepth 8000 in
set_option maxHeartbeats 16000000 in
theorem same_no7 (a0 a1 a2 a3 a7 b7 a8 b8 a9 b9 : Int) (a4 a5 a6 : List UInt8) (ua va : Option Addr) (uq uc vq vc : Nat) (w : World) (d : (a7 != b7) = true) (R : Ending → World → Prop) (h : ∀ w', Below w.heap.size w w' → R (.returned (.bool false)) w') :
    Calls Tryd.prog 28 #[.agg #[.int .i64 a0, .int .i64 a1, .int .i64 a2, .int .i64 a3, .string (str a4), .string (str a5), .string (str a6), .int .i64 a7, .int .i64 a8, .int .i64 a9, .slice ua uq uc], .agg #[.int .i64 a0, .int .i64 a1, .int .i64 a2, .int .i64 a3, .string (str a4), .string (str a5), .string (str a6), .int .i64 b7, .int .i64 b8, .int .i64 b9, .slice va vq vc]] w R := by
  have hb : Below w.heap.size w ((w.alloc (.cells #[.int .i64 a0, .int .i64 a1, .int .i64 a2, .int .i64 a3, .string (str a4), .string (str a5), .string (str a6), .int .i64 a7, .int .i64 a8, .int .i64 a9, .slice ua uq uc] 34)).alloc (.cells #[.int .i64 a0, .int .i64 a1, .int .i64 a2, .int .i64 a3, .string (str a4), .string (str a5), .string (str a6), .int .i64 b7, .int .i64 b8, .int .i64 b9, .slice va vq vc] 34)) := ((Below.refl _ _).alloc (Nat.le_refl _) _).alloc (by simp) _
  have H := Lib.hid (h _ hb)
  clear h hb
  go_enter Tryd.func28, Tryd.ntmps28
  go_wp2_with fail
  exact H.out
end Go.Proofs.YtljpfocmnppjgaaDoor
