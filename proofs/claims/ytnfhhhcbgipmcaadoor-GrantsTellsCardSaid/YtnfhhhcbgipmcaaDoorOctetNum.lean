/- What octet.Num returns: the number's bytes, in memory of its own. -/
import Derived.Test.YtnfhhhcbgipmcaaDoorRows
import Derived.Test.YtnfhhhcbgipmcaaDoorBase
namespace Go.Proofs.YtnfhhhcbgipmcaaDoor
open Go Go.RowKit

theorem infoU8 : (Tryd.prog.info? 5).map (fun i => (i.zero, i.size, i.bytes)) = some (some (.int .u8 0), 1, 1) := by kernel_rfl

theorem be_cell (x k : Nat) : Value.int .u8 ((x : Int) / 2 ^ (8 * k) % 256) = .int .u8 ((UInt8.ofNat (x / 256 ^ k)).toNat : Int) := by
  have e : (256 : Nat) ^ k = 2 ^ (8 * k) := by rw [Nat.pow_mul]
  congr 1
  rw [UInt8.toNat_ofNat', e, Int.natCast_emod, Int.natCast_ediv, Int.natCast_pow]
  rfl
theorem be_put (x n k : Nat) (h : k < n) : (byteCells (List.replicate (n - k) 0 ++ be k x)).set (n - 1 - k) (.int .u8 ((x : Int) / 2 ^ (8 * k) % 256)) = byteCells (List.replicate (n - (k + 1)) 0 ++ be (k + 1) x) := by
  rw [be_cell]
  unfold byteCells
  rw [← List.map_set]
  congr 1
  rw [show n - k = (n - (k + 1)) + 1 by omega, List.replicate_succ', List.append_assoc, List.set_append_right _ _ (by simp; omega)]
  simp [be, show n - 1 - k - (n - (k + 1)) = 0 by omega]

set_option maxHeartbeats 400000 in
theorem num_any (x n : Nat) (_hx : x < 18446744073709551616) (h1 : 1 ≤ n) (h8 : n ≤ 8) (w : World) :
    Calls Tryd.prog 60 #[.int .u64 x, .int .i64 n] w fun e w' => ∃ v, e = .returned v ∧ w'.ownsRow w.heap.size 5 1 v n (byteCells (be n x)) ∧ Below w.heap.size w w' := by
  go_enter Tryd.func60, Tryd.ntmps60
  go_wp2_with (at_make; go_must (refine wpList_make_sl rfl _ _ 33 rfl w.heap.size 5 (.int .u8 0) 1 1 Tryd.underlying33 infoU8 _ _ n rfl rfl (by omega) (by unfold maxLen; omega) (Nat.le_refl _) ?_))
  intro w1 hown hgrow
  have hb := (Below.refl w.heap.size w).grown hgrow (Nat.le_refl _) (by simp)
  have hown2 : w1.ownsRow w.heap.size 5 1 (.slice (some ⟨w.heap.size, 0, none⟩) n n) n (byteCells (List.replicate (n - 0) 0 ++ be 0 x)) := by
    rw [toList_madeCells_one] at hown
    rw [show byteCells (List.replicate (n - 0) 0 ++ be 0 x) = List.replicate n (.int .u8 0) by simp [byteCells, be]]
    exact hown
  clear hown hgrow
  have HO := Lib.hid hown2
  clear hown2
  go_wp2_with fail
  go_loopw [6, 17] (fun _ i wr => ∃ k : Nat, k ≤ n ∧ i = .int .i64 k ∧ Hid (wr.ownsRow w.heap.size 5 1 (.slice (some ⟨w.heap.size, 0, none⟩) n n) n (byteCells (List.replicate (n - k) 0 ++ be k x))) ∧ Below w.heap.size w wr) (fun _ i _ => n - (intOf i).toNat)
  case atStart => exact ⟨0, by omega, rfl, HO, hb⟩
  case round =>
    obtain ⟨k, hk, rfl, hr, hbr⟩ := hrel
    by_cases hlt : k < n
    · have hc : wr.cell? ⟨w.heap.size, n - 1 - k, none⟩ = some (.int .u8 0) := by
        rw [hr.out.cellAt (n - 1 - k) (by omega), byteCells, List.getElem?_map, List.getElem?_append_left (by simp; omega), List.getElem?_replicate, if_pos (by omega)]
        rfl
      have hf := hr.out.frozenAt (n - 1 - k)
      go_wp2_with fail
      go_roundw
      case rel =>
        refine ⟨k + 1, by omega, by go_num, ?_, hbr.setCell (Nat.le_refl _) _⟩
        have := hr.out.stored (n - 1 - k) (.int .u8 ((x : Int) / 2 ^ (8 * k) % 256))
        rw [be_put x n k hlt] at this
        exact this.1
      case measure => simp [intOf]; omega
    · have hkn : k = n := by omega
      subst hkn
      go_wp2_with fail
      go_ret
      refine ⟨_, rfl, ?_, hbr⟩
      have := hr.out
      rwa [Nat.sub_self, List.replicate_zero, List.nil_append] at this
end Go.Proofs.YtnfhhhcbgipmcaaDoor
