/- What crc.On and crc.Of return: the plain sum. -/
import Derived.Test.YtigahgkjidbhbaaDoorRows
import Derived.Test.YtigahgkjidbhbaaDoorBase
import Derived.Test.YtigahgkjidbhbaaDoorCrcPlain
namespace Go.Proofs.YtigahgkjidbhbaaDoor
open Go Go.RowKit

/-- The table of halves lies in the package's variable. -/
def Tab (w : World) : Prop := ∀ j, j < 16 → w.cell? ⟨0, j, none⟩ = some (.int .u32 (C.half.getD j 0 : Nat))
theorem Tab.below {w w' : World} (h : Tab w) (hb : Below w.heap.size w w') : Tab w' := fun j hj =>
  (hb.cell (p := ⟨0, j, none⟩) (World.block_lt_of_cell? w _ (h j hj))).trans (h j hj)

theorem and15 (x : Nat) : x &&& 15 = x % 16 := Nat.and_two_pow_sub_one_eq_mod x 4
theorem halfGet_lt (y : Nat) : C.half[y % 16]?.getD 0 < 4294967296 := by
  have := C.half_lt (y % 16) (Nat.mod_lt _ (by decide))
  rwa [List.getD_eq_getElem?_getD] at this
theorem upd_halfGet (x : Nat) (c : UInt8) : C.upd x c = ((x ^^^ c.toNat) / 16 ^^^ C.half[(x ^^^ c.toNat) % 16]?.getD 0) / 16 ^^^ C.half[((x ^^^ c.toNat) / 16 ^^^ C.half[(x ^^^ c.toNat) % 16]?.getD 0) % 16]?.getD 0 := by
  rw [C.upd_half]; simp only [List.getD_eq_getElem?_getD]
theorem half_bits (y : Nat) (hy : y < 4294967296) :
    bits BinOp.xor IntKind.u32 ((y : Int) / 16) (C.half[(bits BinOp.and IntKind.u32 (y : Int) 15).toNat]?.getD 0 : Nat) = ((y / 16 ^^^ C.half[y % 16]?.getD 0 : Nat) : Int) := by
  have h1 := u32_and_nat y 15 hy (by decide)
  rw [show ((15 : Nat) : Int) = 15 from rfl] at h1
  rw [h1, Int.toNat_natCast, and15, show ((y : Int) / 16) = ((y / 16 : Nat) : Int) from by omega]
  exact u32_xor_nat _ _ (by omega) (halfGet_lt y)
theorem and_bits (y : Nat) (hy : y < 4294967296) : 0 ≤ bits BinOp.and IntKind.u32 (y : Int) 15 ∧ bits BinOp.and IntKind.u32 (y : Int) 15 < 16 := by
  have h1 := u32_and_nat y 15 hy (by decide)
  rw [show ((15 : Nat) : Int) = 15 from rfl] at h1
  rw [h1, and15]
  omega
theorem xor_byte (x : Nat) (hx : x < 4294967296) (c : UInt8) : bits BinOp.xor IntKind.u32 (x : Int) (c.toNat : Int) = ((x ^^^ c.toNat : Nat) : Int) :=
  u32_xor_nat _ _ hx (C.byte_lt c)

set_option maxHeartbeats 400000 in
theorem on_any (s : Nat) (hs : s < 4294967296) (v : Value) (l : List UInt8) (w : World) (hb : Bs w v l) (ht : Tab w) :
    Calls Tryd.prog 13 #[.int .u32 s, v] w fun e w' => e = .returned (.int .u32 (C.on s l : Nat)) ∧ w = w' := by
  obtain ⟨-, ao, cap, rfl, hlc, hcm, -, -⟩ := id hb
  have hbig : l.length ≤ 9223372036854775807 := by unfold maxLen at hcm; omega
  clear hcm
  have hm : bits BinOp.xor IntKind.u32 IntKind.u32.max (s : Int) = ((C.top - s : Nat) : Int) := by
    rw [show IntKind.u32.max = ((4294967295 : Nat) : Int) from rfl, u32_xor_nat _ _ (by decide) hs, C.top_sub s hs]; rfl
  have HM := Lib.hid hm
  clear hm
  go_enter Tryd.func13, Tryd.ntmps13
  go_wp2
  rw [HM.out]
  go_loop [5, 12] (fun t i => ∃ k : Nat, k ≤ l.length ∧ i = .int .i64 k ∧ t = .int .u32 (C.run (C.top - s) (l.take k) : Nat)) (fun _ i => l.length - (intOf i).toNat)
  case atStart => exact ⟨0, by omega, rfl, by simp [C.run]⟩
  case round =>
    obtain ⟨k, hk, rfl, rfl⟩ := hrel
    by_cases hlt : k < l.length
    · obtain ⟨b, off, rfl, hc⟩ := hb.at hlt
      have hcell := hc k hlt
      have hx : C.run (C.top - s) (l.take k) < 4294967296 := C.run_lt _ (by unfold C.top; omega)
      have hn := C.run_snoc (C.top - s) (l.take k) l[k]
      rw [← List.take_succ_eq_append_getElem hlt] at hn
      have HN := Lib.hid hn
      clear hn hc
      obtain ⟨x, hxx⟩ : ∃ x, C.run (C.top - s) (l.take k) = x := ⟨_, rfl⟩
      obtain ⟨c, hcc⟩ : ∃ c, l[k] = c := ⟨_, rfl⟩
      rw [hxx, hcc] at HN
      rw [hxx] at hx
      rw [hcc] at hcell
      simp only [hxx]
      clear hxx hcc
      have hw := c.toNat_lt
      have e1 := xor_byte x hx c
      have h1 : x ^^^ c.toNat < 4294967296 := C.xor_lt hx (C.byte_lt c)
      have e2 := half_bits _ h1
      have hi1 := and_bits _ h1
      have h2 : (x ^^^ c.toNat) / 16 ^^^ C.half[(x ^^^ c.toNat) % 16]?.getD 0 < 4294967296 := C.xor_lt (by omega) (halfGet_lt _)
      have e3 := half_bits _ h2
      have hi2 := and_bits _ h2
      have hT : ∀ i : Int, 0 ≤ i → i < 16 → w.cell? ⟨0, i.toNat, none⟩ = some (.int .u32 (C.half[i.toNat]?.getD 0 : Nat)) := fun i hi hi' => by
        rw [ht i.toNat (by omega), List.getD_eq_getElem?_getD]
      go_wp2_with fail
      go_round
      case rel => exact ⟨k + 1, by omega, by go_num, by rw [HN.out, upd_halfGet]⟩
      case measure => simp [intOf]; omega
    · go_wp2_with fail
      go_ret
      refine ⟨?_, rfl⟩
      rw [List.take_of_length_le (by omega), show IntKind.u32.max = ((4294967295 : Nat) : Int) from rfl,
        u32_xor_nat _ _ (by decide) (C.run_lt _ (by unfold C.top; omega)), C.on, C.top_sub _ (C.run_lt _ (by unfold C.top; omega))]
      rfl

theorem of_any (v : Value) (l : List UInt8) (w : World) (hb : Bs w v l) (ht : Tab w) :
    Calls Tryd.prog 11 #[v] w fun e w' => e = .returned (.int .u32 (C.of l : Nat)) ∧ w = w' := by
  have h := on_any 0 (by decide) v l w hb ht
  rw [show ((0 : Nat) : Int) = 0 from rfl] at h
  have H := Lib.hid h
  clear h
  go_enter Tryd.func11, Tryd.ntmps11
  go_wp2_with fail
  refine H.out.mono ?_
  rintro e w' ⟨rfl, rfl⟩
  go_wp2_with fail
  go_ret
  exact ⟨rfl, rfl⟩

end Go.Proofs.YtigahgkjidbhbaaDoor
