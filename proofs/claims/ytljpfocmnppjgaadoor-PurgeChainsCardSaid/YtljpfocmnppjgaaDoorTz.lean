/- What math/bits.TrailingZeros64 returns. -/
import Derived.Test.YtljpfocmnppjgaaDoorRows
import Derived.Test.YtljpfocmnppjgaaDoorBase
import Derived.Test.YtljpfocmnppjgaaDoorEachPlain
namespace Go.Proofs.YtljpfocmnppjgaaDoor
open Go Go.RowKit

/-- The library's table lies in its variable. -/
def DTab (w : World) : Prop := ∀ j, j < 64 → w.cell? ⟨0, j, none⟩ = some (.int .u8 (Lib.deBruijn64tab.getD j 0 : Nat))
theorem DTab.below {w w' : World} (h : DTab w) (hb : Below w.heap.size w w') : DTab w' := fun j hj =>
  (hb.cell (p := ⟨0, j, none⟩) (World.block_lt_of_cell? w _ (h j hj))).trans (h j hj)

theorem DTab.same {w w' : World} (h : DTab w) (hb : w'.heap[0]? = w.heap[0]?) : DTab w' := fun j hj =>
  (World.cell?_of_block (a := ⟨0, j, none⟩) hb).trans (h j hj)
theorem DTab.lt {w : World} (h : DTab w) : 0 < w.heap.size := World.block_lt_of_cell? w _ (h 0 (by decide))

set_option maxHeartbeats 400000 in
theorem tz_any (y : Nat) (h0 : y ≠ 0) (hy : y < 18446744073709551616) (w : World) (ht : DTab w) :
    Calls Tryd.prog 54 #[.int .u64 y] w fun e w' => e = .returned (.int .i64 (Lib.ctz 64 y : Nat)) ∧ w = w' := by
  obtain ⟨hl1, hl2⟩ := Lib.lowest_bit 64 y h0 hy
  obtain ⟨hd1, hd2⟩ := Lib.deBruijn64_at _ hl2
  have hz : ((y : Int) == 0) = false := by rw [beq_eq_false_iff_ne]; omega
  have hneg : IntKind.u64.wrap (-(y : Int)) = ((2 ^ 64 - y : Nat) : Int) := by rw [IntKind.wrap_u64]; omega
  have hand : bits BinOp.and IntKind.u64 (y : Int) ((2 ^ 64 - y : Nat) : Int) = ((2 ^ Lib.ctz 64 y : Nat) : Int) := by
    rw [u64_and_nat _ _ hy (by omega), hl1]
  have hc := ht _ hd1
  rw [hd2] at hc
  have hw : IntKind.u64.wrap (2 ^ Lib.ctz 64 y * 285870213051353865) = ((2 ^ Lib.ctz 64 y * 285870213051353865 % 18446744073709551616 : Nat) : Int) := by
    rw [IntKind.wrap_u64, Int.natCast_emod, Int.natCast_mul, Int.natCast_pow]; rfl
  clear h0 hl1 hd2
  obtain ⟨q, hq⟩ : ∃ q, 2 ^ Lib.ctz 64 y * 285870213051353865 % 18446744073709551616 = q := ⟨_, rfl⟩
  rw [hq] at hw hc hd1
  clear hq
  have hi : (q : Int) / 288230376151711744 = ((q / 288230376151711744 : Nat) : Int) := by omega
  have hi2 : ((q / 288230376151711744 : Nat) : Int) < 64 := by omega
  generalize q / 288230376151711744 = idx at *
  have hctz : Lib.ctz 64 y < 64 := hl2
  generalize Lib.ctz 64 y = k at *
  generalize 2 ^ 64 - y = ny at *
  clear hl2
  go_enter Tryd.func54, Tryd.ntmps54
  go_wp2_with fail
  go_ret
  exact ⟨ret_int rfl, rfl⟩
end Go.Proofs.YtljpfocmnppjgaaDoor
