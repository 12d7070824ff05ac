/- What lattice.label, Leq, within, Down, and the reference's Bit, One, Leq, Down return. -/
import Derived.Test.YtljpfocmnppjgaaDoorRows
import Derived.Test.YtljpfocmnppjgaaDoorU64
import Derived.Test.YtljpfocmnppjgaaDoorLatPlain
import Derived.BigQuiet
import Derived.Deep.QuietTactic
namespace Go.Proofs.YtljpfocmnppjgaaDoor
open Go Go.RowKit

set_option maxHeartbeats 400000 in
theorem label_any (v : Value) (us : List Nat) (a : Int) (w : World) (hv : Us w v us) :
    Calls Tryd.prog 52 #[v, .int .i64 a] w fun e w' => e = .returned (.bool (L.lab us a)) ∧ w = w' := by
  obtain ⟨ao, cap, rfl, -⟩ := hv.shape
  by_cases h1 : us.length ≤ 64
  · have d1 : decide ((us.length : Int) ≤ 64) = true := by simp; omega
    by_cases h2 : 0 ≤ a
    · have d2 : decide (0 ≤ a) = true := by simp; omega
      have hfin : Hid (decide (a < (us.length : Int)) = L.lab us a) := by simp [Hid, L.lab, h1, h2]
      clear h1 h2
      go_enter Tryd.func52, Tryd.ntmps52
      go_wp2_with fail
      go_ret
      exact ⟨by rw [← hfin.out]; rfl, rfl⟩
    · have d2 : decide (0 ≤ a) = false := by simp; omega
      have hfin : Hid (false = L.lab us a) := by simp [Hid, L.lab, h2]
      clear h1 h2
      go_enter Tryd.func52, Tryd.ntmps52
      go_wp2_with fail
      go_ret
      exact ⟨by rw [← hfin.out]; rfl, rfl⟩
  · have d1 : decide ((us.length : Int) ≤ 64) = false := by simp; omega
    have hfin : Hid (false = L.lab us a) := by simp [Hid, L.lab, h1]
    clear h1
    go_enter Tryd.func52, Tryd.ntmps52
    go_wp2_with fail
    go_ret
    exact ⟨by rw [← hfin.out]; rfl, rfl⟩

/-- One bit, as the code asks for it. -/
theorem bit_eq (x b : Nat) : ((x : Int) / 2 ^ b % 2 == 1) = x.testBit b := by
  rw [Nat.testBit_eq_decide_div_mod_eq, Bool.eq_iff_iff, beq_iff_eq, decide_eq_true_eq]
  have : ((x / 2 ^ b % 2 : Nat) : Int) = (x : Int) / 2 ^ b % 2 := by rw [Int.natCast_emod, Int.natCast_ediv, Int.natCast_pow]; rfl
  omega
theorem bit_and (x b : Nat) (hx : x < 18446744073709551616) : bits BinOp.and IntKind.u64 ((x : Int) / 2 ^ b) 1 = (x : Int) / 2 ^ b % 2 := by
  have h := u64_and_nat (x / 2 ^ b) 1 (Nat.lt_of_le_of_lt (Nat.div_le_self _ _) hx) (by decide)
  rw [Nat.and_one_is_mod, Int.natCast_emod, Int.natCast_ediv, Int.natCast_pow] at h
  exact h
theorem mask_wrap (n : Nat) (hn : n < 64) : IntKind.u64.wrap (IntKind.u64.wrap (2 ^ n) - 1) = ((2 ^ n - 1 : Nat) : Int) := by
  have hp : 2 ^ n ≤ 2 ^ 63 := Nat.pow_le_pow_right (by decide) (by omega)
  have h0 : 0 < 2 ^ n := Nat.two_pow_pos n
  have e : ((2 : Int) ^ n) = ((2 ^ n : Nat) : Int) := by rw [Int.natCast_pow]; rfl
  rw [e, IntKind.wrap_u64, IntKind.wrap_u64]
  omega

set_option maxHeartbeats 400000 in
theorem leq_any (v : Value) (us : List Nat) (a b : Int) (w : World) (hv : Us w v us) (hu : U64s us) :
    Calls Tryd.prog 41 #[v, .int .i64 a, .int .i64 b] w fun e w' => e = .returned (.bool (L.leq us a b)) ∧ w = w' := by
  obtain ⟨ao, cap, rfl, -⟩ := hv.shape
  cases ha : L.lab us a with
  | false =>
    have hfin : Hid (L.leq us a b = false) := L.leq_of_not_left ha b
    go_enter Tryd.func41, Tryd.ntmps41
    go_wp2_with fail
    refine (label_any _ us a w hv).mono ?_
    rintro e w' ⟨rfl, rfl⟩
    rw [ha]
    go_wp2_with fail
    go_ret
    exact ⟨by rw [hfin.out]; rfl, rfl⟩
  | true =>
    cases hb : L.lab us b with
    | false =>
      have hfin : Hid (L.leq us a b = false) := L.leq_of_not_right hb a
      go_enter Tryd.func41, Tryd.ntmps41
      go_wp2_with fail
      refine (label_any _ us a w hv).mono ?_
      rintro e w' ⟨rfl, rfl⟩
      rw [ha]
      go_wp2_with fail
      refine (label_any _ us b w hv).mono ?_
      rintro e w' ⟨rfl, rfl⟩
      rw [hb]
      go_wp2_with fail
      go_ret
      exact ⟨by rw [hfin.out]; rfl, rfl⟩
    | true =>
      have HA := Lib.hid ha
      have HB := Lib.hid hb
      clear ha hb
      obtain ⟨h64, ha0, han⟩ := L.lab_iff.1 HA.out
      obtain ⟨-, hb0, hbn⟩ := L.lab_iff.1 HB.out
      obtain ⟨i, rfl⟩ := Int.eq_ofNat_of_zero_le ha0
      obtain ⟨j, rfl⟩ := Int.eq_ofNat_of_zero_le hb0
      have hi : i < us.length := by omega
      obtain ⟨bk, off, rfl, hc⟩ := hv.at hi
      have hcell := hc i hi
      have hx := hu.getD i
      obtain ⟨x, hxx⟩ : ∃ x, us.getD i 0 = x := ⟨_, rfl⟩
      have hfin : Hid (L.leq us i j = x.testBit j) := by unfold Hid L.leq; rw [HA.out, HB.out, ← hxx]; rfl
      rw [hxx] at hcell hx
      have hj : (j : Int) < 64 := by omega
      have e1 := bit_and x j hx
      clear hxx hc
      go_enter Tryd.func41, Tryd.ntmps41
      go_wp2_with fail
      refine (label_any _ us i w hv).mono ?_
      rintro e w' ⟨rfl, rfl⟩
      rw [HA.out]
      go_wp2_with fail
      refine (label_any _ us j w hv).mono ?_
      rintro e w' ⟨rfl, rfl⟩
      rw [HB.out]
      go_wp2_with fail
      go_ret
      exact ⟨ret_bool (by rw [hfin.out]; exact bit_eq x j), rfl⟩

theorem mask_eq (x n : Nat) (hx : x < 18446744073709551616) (hn : n < 64) : bits BinOp.and IntKind.u64 (x : Int) ((2 ^ n - 1 : Nat) : Int) = (ofBits n x.testBit : Nat) := by
  have hp : 2 ^ n ≤ 2 ^ 64 := Nat.pow_le_pow_right (by decide) (by omega)
  rw [u64_and_nat _ _ hx (by omega), Nat.and_two_pow_sub_one_eq_mod]
  congr 1
  apply Nat.eq_of_testBit_eq
  intro i
  rw [Nat.testBit_mod_two_pow, testBit_ofBits]

end Go.Proofs.YtljpfocmnppjgaaDoor
