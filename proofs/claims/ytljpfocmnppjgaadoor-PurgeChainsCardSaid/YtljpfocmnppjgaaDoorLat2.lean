/- What the reference's Bit, One, Leq and Down and lattice.Down return. -/
import Derived.Test.YtljpfocmnppjgaaDoorLat1
namespace Go.Proofs.YtljpfocmnppjgaaDoor
open Go Go.RowKit

theorem bit_last (x : Nat) : ((x : Int) % 2 == 1) = x.testBit 0 := by
  have := bit_eq x 0
  simpa using this

set_option maxHeartbeats 400000 in
theorem refBit_any (x k : Nat) (hx : x < 18446744073709551616) (hk : k ≤ 64) (w : World) :
    Calls Tryd.prog 24 #[.int .u64 x, .int .i64 k] w fun e w' => e = .returned (.bool (x.testBit k)) ∧ w = w' := by
  go_enter Tryd.func24, Tryd.ntmps24
  go_wp2_with fail
  go_loop [0, 5] (fun t i => ∃ j : Nat, j ≤ k ∧ i = .int .i64 j ∧ t = .int .u64 (x / 2 ^ j : Nat)) (fun _ i => k - (intOf i).toNat)
  case atStart => exact ⟨0, by omega, rfl, by simp⟩
  case round =>
    obtain ⟨j, hj, rfl, rfl⟩ := hrel
    have hn : Hid (x / 2 ^ j / 2 = x / 2 ^ (j + 1)) := by unfold Hid; rw [Nat.div_div_eq_div_mul, Nat.pow_succ]
    have hb : Hid (x.testBit j = (x / 2 ^ j).testBit 0) := by unfold Hid; rw [Nat.testBit_div_two_pow, Nat.zero_add]
    have hql : x / 2 ^ j < 18446744073709551616 := Nat.lt_of_le_of_lt (Nat.div_le_self _ _) hx
    obtain ⟨q, hq⟩ : ∃ q, x / 2 ^ j = q := ⟨_, rfl⟩
    rw [hq] at hn hb hql
    simp only [hq]
    clear hq
    by_cases hlt : j < k
    · go_wp2_with fail
      go_round
      case rel => exact ⟨j + 1, by omega, by go_num, by rw [← hn.out]; go_num⟩
      case measure => simp [intOf]; omega
    · obtain rfl : j = k := by omega
      clear hlt
      go_wp2_with fail
      go_ret
      exact ⟨ret_bool (by rw [hb.out]; exact bit_last q), rfl⟩

set_option maxHeartbeats 400000 in
theorem refOne_any (k : Nat) (hk : k < 64) (w : World) :
    Calls Tryd.prog 33 #[.int .i64 k] w fun e w' => e = .returned (.int .u64 (2 ^ k : Nat)) ∧ w = w' := by
  go_enter Tryd.func33, Tryd.ntmps33
  go_wp2_with fail
  go_loop [3, 4] (fun t i => ∃ j : Nat, j ≤ k ∧ i = .int .i64 j ∧ t = .int .u64 (2 ^ j : Nat)) (fun _ i => k - (intOf i).toNat)
  case atStart => exact ⟨0, by omega, rfl, rfl⟩
  case round =>
    obtain ⟨j, hj, rfl, rfl⟩ := hrel
    have hn : Hid (2 ^ (j + 1) = 2 ^ j * 2) := Nat.pow_succ 2 j
    by_cases hlt : j < k
    · have hp : 2 ^ j ≤ 2 ^ 62 := Nat.pow_le_pow_right (by decide) (by omega)
      have hp2 : 2 ^ j ≤ 4611686018427387904 := hp
      clear hp
      obtain ⟨q, hq⟩ : ∃ q, 2 ^ j = q := ⟨_, rfl⟩
      rw [hq] at hn hp2
      simp only [hq]
      clear hq
      go_wp2_with fail
      go_round
      case rel => exact ⟨j + 1, by omega, by go_num, by rw [hn.out]; go_num⟩
      case measure => simp [intOf]; omega
    · obtain rfl : j = k := by omega
      clear hlt hn
      obtain ⟨q, hq⟩ : ∃ q, 2 ^ j = q := ⟨_, rfl⟩
      simp only [hq]
      go_wp2_with fail
      go_ret
      exact ⟨ret_int rfl, rfl⟩

set_option maxHeartbeats 800000 in
theorem refLeq_any (v : Value) (us : List Nat) (a b : Int) (w : World) (hv : Us w v us) (hu : U64s us) :
    Calls Tryd.prog 18 #[v, .int .i64 a, .int .i64 b] w fun e w' => e = .returned (.bool (L.leq us a b)) ∧ w = w' := by
  obtain ⟨ao, cap, rfl, -⟩ := hv.shape
  by_cases hall : L.lab us a = true ∧ L.lab us b = true
  · obtain ⟨h64, ha0, han⟩ := L.lab_iff.1 hall.1
    obtain ⟨-, hb0, hbn⟩ := L.lab_iff.1 hall.2
    obtain ⟨i, rfl⟩ := Int.eq_ofNat_of_zero_le ha0
    obtain ⟨j, rfl⟩ := Int.eq_ofNat_of_zero_le hb0
    have hi : i < us.length := by omega
    obtain ⟨bk, off, rfl, hc⟩ := hv.at hi
    have hcell := hc i hi
    have hx := hu.getD i
    obtain ⟨x, hxx⟩ : ∃ x, us.getD i 0 = x := ⟨_, rfl⟩
    have hfin : Hid (L.leq us i j = x.testBit j) := by unfold Hid L.leq; rw [hall.1, hall.2, ← hxx]; rfl
    rw [hxx] at hcell hx
    have d1 : decide ((us.length : Int) ≤ 64) = true := by simp; omega
    have d3 : decide ((i : Int) < (us.length : Int)) = true := by simp; omega
    have d5 : decide ((j : Int) < (us.length : Int)) = true := by simp; omega
    clear hxx hc hall
    go_enter Tryd.func18, Tryd.ntmps18
    go_wp2_with fail
    refine (refBit_any x j hx (by omega) w).mono ?_
    rintro e w' ⟨rfl, rfl⟩
    go_wp2_with fail
    go_ret
    exact ⟨ret_bool (by rw [hfin.out]), rfl⟩
  · have hfin : Hid (L.leq us a b = false) := by
      unfold Hid
      cases ha : L.lab us a with
      | false => exact L.leq_of_not_left ha b
      | true =>
        cases hb : L.lab us b with
        | false => exact L.leq_of_not_right hb a
        | true => exact absurd ⟨ha, hb⟩ hall
    by_cases h64 : us.length ≤ 64
    · have d1 : decide ((us.length : Int) ≤ 64) = true := by simp; omega
      by_cases ha0 : 0 ≤ a
      · have d2 : decide (0 ≤ a) = true := by simp; omega
        by_cases han : a < us.length
        · have d3 : decide (a < (us.length : Int)) = true := by simp; omega
          have hA : L.lab us a = true := L.lab_iff.2 ⟨h64, ha0, han⟩
          by_cases hb0 : 0 ≤ b
          · have d4 : decide (0 ≤ b) = true := by simp; omega
            have d5 : decide (b < (us.length : Int)) = false := by
              rw [decide_eq_false_iff_not]
              intro hbn
              exact hall ⟨hA, L.lab_iff.2 ⟨h64, hb0, hbn⟩⟩
            clear hall hA h64 ha0 han hb0
            go_enter Tryd.func18, Tryd.ntmps18
            go_wp2_with fail
            go_ret
            exact ⟨ret_bool (by rw [hfin.out]), rfl⟩
          · have d4 : decide (0 ≤ b) = false := by simp; omega
            clear hall hA h64 ha0 han hb0
            go_enter Tryd.func18, Tryd.ntmps18
            go_wp2_with fail
            go_ret
            exact ⟨ret_bool (by rw [hfin.out]), rfl⟩
        · have d3 : decide (a < (us.length : Int)) = false := by simp; omega
          clear hall h64 ha0 han
          go_enter Tryd.func18, Tryd.ntmps18
          go_wp2_with fail
          go_ret
          exact ⟨ret_bool (by rw [hfin.out]), rfl⟩
      · have d2 : decide (0 ≤ a) = false := by simp; omega
        clear hall h64 ha0
        go_enter Tryd.func18, Tryd.ntmps18
        go_wp2_with fail
        go_ret
        exact ⟨ret_bool (by rw [hfin.out]), rfl⟩
    · have d1 : decide ((us.length : Int) ≤ 64) = false := by simp; omega
      clear hall h64
      go_enter Tryd.func18, Tryd.ntmps18
      go_wp2_with fail
      go_ret
      exact ⟨ret_bool (by rw [hfin.out]), rfl⟩

theorem pow_le64 {k : Nat} (h : k ≤ 64) : 2 ^ k ≤ 18446744073709551616 := by
  have := Nat.pow_le_pow_right (n := 2) (by decide) h
  exact this
theorem wrap_pow (k : Nat) (h : k < 64) : IntKind.u64.wrap (2 ^ k) = ((2 ^ k : Nat) : Int) := by
  have hp : 2 ^ k < 18446744073709551616 := Nat.pow_lt_pow_right (show 1 < 2 by decide) h
  have e : ((2 : Int) ^ k) = ((2 ^ k : Nat) : Int) := by rw [Int.natCast_pow]; rfl
  rw [e, IntKind.wrap_u64]
  generalize 2 ^ k = q at *
  omega
theorem or_bits (x i : Nat) (hx : x < 18446744073709551616) (hi : i < 64) : bits BinOp.or IntKind.u64 (x : Int) ((2 ^ i : Nat) : Int) = ((x ||| 2 ^ i : Nat) : Int) :=
  u64_or_nat _ _ hx (by have := Nat.pow_lt_pow_right (show 1 < 2 by decide) hi; omega)

set_option maxHeartbeats 800000 in
theorem down_any (v : Value) (us : List Nat) (a : Int) (w : World) (hv : Us w v us) (hu : U64s us) :
    Calls Tryd.prog 26 #[v, .int .i64 a] w fun e w' => e = .returned (.int .u64 (L.down us a : Nat)) ∧ w = w' := by
  obtain ⟨ao, cap, rfl, -⟩ := hv.shape
  have hbig := hv.len
  go_enter Tryd.func26, Tryd.ntmps26
  go_wp2_with fail
  go_loop [5, 9] (fun t i => ∃ k : Nat, k ≤ us.length ∧ i = .int .i64 k ∧ t = .int .u64 (ofBits k (fun i => L.leq us i a) : Nat)) (fun _ i => us.length - (intOf i).toNat)
  case atStart => exact ⟨0, by omega, rfl, rfl⟩
  case round =>
    obtain ⟨k, hk, rfl, rfl⟩ := hrel
    by_cases hlt : k < us.length
    · have hs : Hid (ofBits (k + 1) (fun i => L.leq us i a) = (ofBits k (fun i => L.leq us i a) ||| if L.leq us k a then 2 ^ k else 0)) := (ofBits_or k _).symm
      have hx : L.leq us k a = true → ofBits k (fun i => L.leq us i a) < 18446744073709551616 ∧ k < 64 := fun h => by
        have h64 : us.length ≤ 64 := by
          rcases Nat.lt_or_ge 64 us.length with h' | h'
          · rw [L.leq_long h'] at h; cases h
          · exact h'
        exact ⟨Nat.lt_of_lt_of_le (ofBits_lt _ _) (pow_le64 (by omega)), by omega⟩
      have HX := Lib.hid hx
      clear hx
      obtain ⟨q, hq⟩ : ∃ q, ofBits k (fun i => L.leq us i a) = q := ⟨_, rfl⟩
      rw [hq] at hs HX
      simp only [hq]
      clear hq
      go_wp2_with fail
      refine (leq_any _ us k a w hv hu).mono ?_
      rintro e w' ⟨rfl, rfl⟩
      cases hl : L.leq us k a with
      | false =>
        rw [hl] at hs
        have HS : Hid (ofBits (k + 1) (fun i => L.leq us i a) = q) := by unfold Hid; rw [hs.out]; simp
        clear hl hs
        go_wp2_with fail
        go_round
        case rel => exact ⟨k + 1, by omega, by go_num, by rw [HS.out]⟩
        case measure => simp [intOf]; omega
      | true =>
        rw [hl] at hs HX
        obtain ⟨hq64, hk64⟩ := HX.out rfl
        have HS : Hid (ofBits (k + 1) (fun i => L.leq us i a) = q ||| 2 ^ k) := by unfold Hid; rw [hs.out]; simp
        have ho := or_bits q k hq64 hk64
        clear hl hs HX
        have hk64' : (k : Int) < 64 := by omega
        go_wp2_with fail
        go_round
        case rel => exact ⟨k + 1, by omega, by go_num, by rw [wrap_pow _ hk64, ho, HS.out]⟩
        case measure => simp [intOf]; omega
    · obtain rfl : k = us.length := by omega
      clear hlt hk
      go_wp2_with fail
      go_ret
      exact ⟨ret_int rfl, rfl⟩

set_option maxHeartbeats 800000 in
theorem refDown_any (v : Value) (us : List Nat) (a : Int) (w : World) (hv : Us w v us) (hu : U64s us) :
    Calls Tryd.prog 16 #[v, .int .i64 a] w fun e w' => e = .returned (.int .u64 (L.down us a : Nat)) ∧ w = w' := by
  obtain ⟨ao, cap, rfl, -⟩ := hv.shape
  have hbig := hv.len
  go_enter Tryd.func16, Tryd.ntmps16
  go_wp2_with fail
  go_loop [5, 6] (fun t i => ∃ k : Nat, k ≤ us.length ∧ i = .int .i64 k ∧ t = .int .u64 (ofBits k (fun i => L.leq us i a) : Nat)) (fun _ i => us.length - (intOf i).toNat)
  case atStart => exact ⟨0, by omega, rfl, rfl⟩
  case round =>
    obtain ⟨k, hk, rfl, rfl⟩ := hrel
    by_cases hlt : k < us.length
    · have hs : Hid (ofBits (k + 1) (fun i => L.leq us i a) = ofBits k (fun i => L.leq us i a) + if L.leq us k a then 2 ^ k else 0) := ofBits_succ k _
      have hx : L.leq us k a = true → ofBits k (fun i => L.leq us i a) + 2 ^ k < 18446744073709551616 ∧ k < 64 := fun h => by
        have h64 : us.length ≤ 64 := by
          rcases Nat.lt_or_ge 64 us.length with h' | h'
          · rw [L.leq_long h'] at h; cases h
          · exact h'
        have h1 := ofBits_lt k (fun i => L.leq us i a)
        have h2 := pow_le64 (show k + 1 ≤ 64 by omega)
        rw [Nat.pow_succ] at h2
        exact ⟨by omega, by omega⟩
      have HX := Lib.hid hx
      clear hx
      obtain ⟨q, hq⟩ : ∃ q, ofBits k (fun i => L.leq us i a) = q := ⟨_, rfl⟩
      rw [hq] at hs HX
      simp only [hq]
      clear hq
      go_wp2_with fail
      refine (refLeq_any _ us k a w hv hu).mono ?_
      rintro e w' ⟨rfl, rfl⟩
      cases hl : L.leq us k a with
      | false =>
        rw [hl] at hs
        have HS : Hid (ofBits (k + 1) (fun i => L.leq us i a) = q) := by unfold Hid; rw [hs.out]; simp
        clear hl hs
        go_wp2_with fail
        go_round
        case rel => exact ⟨k + 1, by omega, by go_num, by rw [HS.out]⟩
        case measure => simp [intOf]; omega
      | true =>
        rw [hl] at hs HX
        obtain ⟨hq64, hk64⟩ := HX.out rfl
        have HS : Hid (ofBits (k + 1) (fun i => L.leq us i a) = q + 2 ^ k) := by unfold Hid; rw [hs.out]; simp
        clear hl hs HX
        obtain ⟨p, hp⟩ : ∃ p, 2 ^ k = p := ⟨_, rfl⟩
        have HP := Lib.hid hp
        rw [hp] at hq64 HS
        clear hp
        go_wp2_with fail
        refine (refOne_any k hk64 w).mono ?_
        rintro e w' ⟨rfl, rfl⟩
        rw [HP.out]
        go_wp2_with fail
        go_round
        case rel => exact ⟨k + 1, by omega, by go_num, by rw [HS.out]; go_num⟩
        case measure => simp [intOf]; omega
    · obtain rfl : k = us.length := by omega
      clear hlt hk
      go_wp2_with fail
      go_ret
      exact ⟨ret_int rfl, rfl⟩
end Go.Proofs.YtljpfocmnppjgaaDoor
