/- What the reference's Num returns: the number's bytes as a string. -/
import Derived.Test.YtnfhhhcbgipmcaaDoorOctetNum
namespace Go.Proofs.YtnfhhhcbgipmcaaDoor
open Go Go.RowKit

theorem u8_of (q : Nat) : Value.int .u8 ((q : Int) % 256) = .int .u8 ((UInt8.ofNat q).toNat : Int) := by
  rw [UInt8.toNat_ofNat', Int.natCast_emod]; rfl
theorem one_u8 (q : Nat) : #[Value.int .u8 ((q : Int) % 256)] = (byteCells [UInt8.ofNat q]).toArray := by rw [u8_of]; rfl

set_option maxHeartbeats 400000 in
theorem refNum_any (x n : Nat) (hx : x < 18446744073709551616) (h1 : 1 ≤ n) (h8 : n ≤ 8) (w : World) :
    Calls Tryd.prog 61 #[.int .u64 x, .int .i64 n] w fun e w' => e = .returned (.string (str (be n x))) ∧ Below w.heap.size w w' := by
  have hE : Value.string { data := #[] } = .string (str (be 0 x)) := rfl
  have HE := Lib.hid hE
  clear hE
  go_enter Tryd.func61, Tryd.ntmps61
  go_wp2_with fail
  go_loopw [0, 5, 6] (fun t s i wr => ∃ k : Nat, k ≤ n ∧ i = .int .i64 k ∧ t = .int .u64 (x / 256 ^ k : Nat) ∧ s = .string (str (be k x)) ∧ Below w.heap.size w wr) (fun _ _ i _ => n - (intOf i).toNat)
  case atStart => exact ⟨0, by omega, rfl, by simp, HE.out, Below.refl _ _⟩
  case round =>
    obtain ⟨k, hk, rfl, rfl, rfl, hb⟩ := hrel
    by_cases hlt : k < n
    · have hq : x / 256 ^ k < 18446744073709551616 := Nat.lt_of_le_of_lt (Nat.div_le_self _ _) hx
      obtain ⟨q, hqq⟩ : ∃ q, x / 256 ^ k = q := ⟨_, rfl⟩
      obtain ⟨s, hss⟩ : ∃ s, str (be k x) = s := ⟨_, rfl⟩
      have hsz : s.size ≤ 8 := by rw [← hss, str_size, be_length]; omega
      have HQ := Lib.hid hqq
      have HS := Lib.hid hss
      simp only [hqq, hss] at hq ⊢
      clear hqq hss hx
      have hconv : (convert 33 9 (.slice (some ⟨wr.heap.size, 0, none⟩) 1 1)).run Tryd.prog (wr.alloc (.cells #[.int .u8 ((q : Int) % 256)] 5)) = .ok (.string (str [UInt8.ofNat q])) (wr.alloc (.cells #[.int .u8 ((q : Int) % 256)] 5)) := by
        exact run_str Tryd.underlying33 Tryd.underlying5 Tryd.underlying9 (Bs.lit [UInt8.ofNat q] 1 rfl (by decide) (one_u8 q))
      have hadd : str [UInt8.ofNat q] ++ s = str (be (k + 1) x) := by rw [← HS.out, str_append, ← HQ.out]; rfl
      have hdiv : q / 256 = x / 256 ^ (k + 1) := by rw [← HQ.out, Nat.div_div_eq_div_mul, Nat.pow_succ]
      have HD := Lib.hid hdiv
      obtain ⟨t, ht⟩ : ∃ t, str (be (k + 1) x) = t := ⟨_, rfl⟩
      rw [ht] at hadd
      have HT := Lib.hid ht
      obtain ⟨s1, hs1⟩ : ∃ s1, str [UInt8.ofNat q] = s1 := ⟨_, rfl⟩
      have hz1 : s1.size ≤ 1 := by rw [← hs1, str_size]; simp
      rw [hs1] at hconv hadd
      clear hdiv ht hs1
      go_wp2_with fail
      go_roundw
      case rel => exact ⟨k + 1, by omega, by go_num, by rw [← HD.out]; go_num, by rw [HT.out], hb.alloc hb.size _⟩
      case measure => simp [intOf]; omega
    · obtain rfl : k = n := by omega
      go_wp2_with fail
      go_ret
      exact ⟨rfl, hb⟩

end Go.Proofs.YtnfhhhcbgipmcaaDoor
