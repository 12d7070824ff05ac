/- What the reference's sum returns. -/
import Derived.Test.YtigahgkjidbhbaaDoorCrcOn
import Derived.Test.YtigahgkjidbhbaaDoorOctetNum
namespace Go.Proofs.YtigahgkjidbhbaaDoor
open Go Go.RowKit

theorem stepN_succ' (n x : Nat) : C.stepN (n + 1) x = C.step1 (C.stepN n x) := by
  rw [C.stepN_add n 1]; rfl

set_option maxHeartbeats 400000 in
theorem refOn_any (s : Nat) (hs : s < 4294967296) (l : List UInt8) (hl : l.length ≤ 100000) (w : World) :
    Calls Tryd.prog 14 #[.int .u32 s, .string (str l)] w fun e w' => e = .returned (.int .u32 (C.on s l : Nat)) ∧ w = w' := by
  have hsz := str_size l
  obtain ⟨sl, hsl⟩ : ∃ sl, str l = sl := ⟨_, rfl⟩
  rw [hsl] at hsz ⊢
  obtain ⟨len, hlen⟩ : ∃ len, l.length = len := ⟨_, rfl⟩
  have HSL := Lib.hid hsl
  have HSZ := Lib.hid hsz
  have hszl : sl.size ≤ 100000 := by omega
  have hszl' : l.length = sl.size := by omega
  have HLL := Lib.hid hszl'
  clear hsz hl hsl hlen hszl'
  go_enter Tryd.func14, Tryd.ntmps14
  go_wp2_with fail
  go_loop [5, 6] (fun t i => ∃ k : Nat, k ≤ sl.size ∧ i = .int .i64 k ∧ t = .int .u32 (C.run (C.top - s) (l.take k) : Nat)) (fun _ i => sl.size - (intOf i).toNat)
  case atStart => exact ⟨0, by omega, rfl, by simp [C.run, C.top]; omega⟩
  case round =>
    obtain ⟨k, hk, rfl, rfl⟩ := hrel
    by_cases hlt : k < sl.size
    · have hll : k < l.length := by have := HLL.out; omega
      obtain ⟨c, hc⟩ : ∃ c, sl[k] = c := ⟨_, rfl⟩
      have hcl : Hid (l[k] = c) := by
        have h2 := HSL.out
        subst h2
        exact hc
      have hw : (c.toNat : Int) < 4294967296 := by have := c.toNat_lt; omega
      have hx : C.run (C.top - s) (l.take k) < 4294967296 := C.run_lt _ (by unfold C.top; omega)
      have hn : Hid (C.run (C.top - s) (l.take (k + 1)) = C.stepN 8 (C.run (C.top - s) (l.take k) ^^^ c.toNat)) := by
        have h := C.run_snoc (C.top - s) (l.take k) l[k]
        rw [← List.take_succ_eq_append_getElem hll, hcl.out] at h
        exact h
      obtain ⟨x, hxx⟩ : ∃ x, C.run (C.top - s) (l.take k) = x := ⟨_, rfl⟩
      simp only [hxx] at hx hn ⊢
      clear hxx
      have e1 := xor_byte x hx c
      have h1 : x ^^^ c.toNat < 4294967296 := C.xor_lt hx (C.byte_lt c)
      go_wp2_with fail
      clear hc
      go_loop [5, 7] (fun t j => ∃ n : Nat, n ≤ 8 ∧ j = .int .i64 n ∧ t = .int .u32 (C.stepN n (x ^^^ c.toNat) : Nat)) (fun _ j => 8 - (intOf j).toNat)
      case atStart => exact ⟨0, by omega, rfl, rfl⟩
      case round =>
        obtain ⟨n, hn8, rfl, rfl⟩ := hrel
        by_cases hlt8 : n < 8
        · have hy := C.stepN_lt n h1
          have hs1 : Hid (C.stepN (n + 1) (x ^^^ c.toNat) = C.step1 (C.stepN n (x ^^^ c.toNat))) := stepN_succ' n _
          obtain ⟨y, hyy⟩ : ∃ y, C.stepN n (x ^^^ c.toNat) = y := ⟨_, rfl⟩
          simp only [hyy] at hy hs1 ⊢
          clear hyy e1 h1 hw hx hlt hk
          have e2 := u32_xor_nat (y / 2) 3988292384 (by omega) (by decide)
          rw [show ((3988292384 : Nat) : Int) = 3988292384 from rfl, show ((y / 2 : Nat) : Int) = (y : Int) / 2 from by omega] at e2
          by_cases hodd : y % 2 = 1
          · have hd : ((y : Int) % 2 == 1) = true := by rw [beq_iff_eq]; omega
            have hst : Hid (C.step1 y = y / 2 ^^^ 3988292384) := by unfold C.step1; rw [if_pos hodd]; rfl
            clear hodd
            go_wp2_with fail
            go_round
            case rel => exact ⟨n + 1, by omega, by go_num, by rw [hs1.out, hst.out]⟩
            case measure => simp [intOf]; omega
          · have hd : ((y : Int) % 2 == 1) = false := by rw [beq_eq_false_iff_ne]; omega
            have hst : Hid (C.step1 y = y / 2) := by unfold C.step1; rw [if_neg hodd]; rfl
            clear hodd e2
            go_wp2_with fail
            go_round
            case rel => exact ⟨n + 1, by omega, by go_num, by rw [hs1.out, hst.out]; go_num⟩
            case measure => simp [intOf]; omega
        · obtain rfl : n = 8 := by omega
          go_wp2_with fail
          go_round
          case rel => exact ⟨k + 1, by omega, by go_num, by rw [hn.out]⟩
          case measure => simp [intOf]; omega
    · go_wp2_with fail
      go_ret
      refine ⟨ret_int ?_, rfl⟩
      have h2 := C.run_lt l (x := C.top - s) (by unfold C.top; omega)
      rw [List.take_of_length_le (by have := HLL.out; omega), C.on]
      unfold C.top at *
      omega

end Go.Proofs.YtigahgkjidbhbaaDoor
