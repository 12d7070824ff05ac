/- What is put is got: the bytes of rows. No program. -/
import Derived.Test.YtnfhhhcbgipmcaaDoorLatGet
namespace Go.Proofs.YtnfhhhcbgipmcaaDoor.L

theorem nums_rows (us : List Nat) (rest : List UInt8) (hu : ∀ x ∈ us, x < 18446744073709551616) : ∀ k, k ≤ us.length → T.nums k (rowBytes us ++ rest) 0 = (us.take k, rowBytes (us.drop k) ++ rest, 0)
  | 0, _ => by simp [T.nums]
  | k + 1, hk => by
    have ih := nums_rows us rest hu k (by omega)
    have hd : us.drop k = us[k] :: us.drop (k + 1) := List.drop_eq_getElem_cons (by omega)
    have hb : rowBytes (us.drop k) ++ rest = be 8 us[k] ++ (rowBytes (us.drop (k + 1)) ++ rest) := by
      rw [hd]
      unfold rowBytes
      rw [List.flatMap_cons, List.append_assoc]
    have hlen : 8 ≤ (be 8 us[k] ++ (rowBytes (us.drop (k + 1)) ++ rest)).length := by rw [List.length_append, be_length]; omega
    obtain ⟨q1, q2, q3⟩ := T.tv_good hlen
    have ht : (be 8 us[k] ++ (rowBytes (us.drop (k + 1)) ++ rest)).take 8 = be 8 us[k] := List.take_left' (be_length _ _)
    have hdr : (be 8 us[k] ++ (rowBytes (us.drop (k + 1)) ++ rest)).drop 8 = rowBytes (us.drop (k + 1)) ++ rest := List.drop_left' (be_length _ _)
    unfold T.nums
    rw [ih]
    simp only []
    rw [hb, q1, q2, q3, ht, hdr, T.val_be (hu _ (List.getElem_mem (by omega))), List.take_succ_eq_append_getElem (by omega)]

theorem gotN_front {n : Nat} (hn : n < 256) (l : List UInt8) : gotN (be 1 n ++ l) = T.nums n l 0 := by
  have hlen : 1 ≤ (be 1 n ++ l).length := by rw [List.length_append, be_length]; omega
  obtain ⟨q1, q2, q3⟩ := T.tv_good hlen
  have ht : (be 1 n ++ l).take 1 = be 1 n := List.take_left' (be_length _ _)
  have hdr : (be 1 n ++ l).drop 1 = l := List.drop_left' (be_length _ _)
  unfold gotN
  rw [q1, q2, q3, ht, hdr, T.val_be (by simpa using hn)]
theorem gotN_put {us : List Nat} (hu : ∀ x ∈ us, x < 18446744073709551616) (h : us.length ≤ 64) (rest : List UInt8) : gotN (be 1 us.length ++ rowBytes us ++ rest) = (us, rest, 0) := by
  rw [List.append_assoc, gotN_front (by omega), nums_rows us rest hu _ (Nat.le_refl _)]
  simp [rowBytes]

structure Back (us : List Nat) (c : UInt8) : Prop where
  e : putE us = 0
  len : (put us).length = 8 * us.length + 1
  get : get (put us) = us
  getE : getE (put us) = 0
  short : L.getE ((put us).take (8 * us.length)) = 10
  more : L.getE (put us ++ [c]) = 11
theorem back {us : List Nat} (hu : ∀ x ∈ us, x < 18446744073709551616) (hc : check us = true) (c : UInt8) : Back us c := by
  have hl := check_iff.1 hc
  have h64 := hl.few
  have h1 := hl.some
  have hp : put us = be 1 us.length ++ rowBytes us := by unfold put; rw [if_pos hc]
  have hlen : (put us).length = 8 * us.length + 1 := by rw [hp, List.length_append, be_length, rowBytes_length]; omega
  have g0 := gotN_put hu h64 []
  rw [List.append_nil, ← hp] at g0
  have g1 := gotN_put hu h64 [c]
  rw [← hp] at g1
  have hgood := getE_good (l := put us) (by rw [g0]) (by rw [g0]; exact hc) (by rw [g0])
  refine ⟨by unfold putE; rw [if_pos hc], hlen, ?_, hgood.1, ?_, ?_⟩
  · rw [hgood.2, g0]
  · obtain ⟨vs, x, rfl⟩ : ∃ vs x, us = vs ++ [x] := ⟨us.dropLast, us.getLast (by intro h; rw [h] at h1; simp at h1), (List.dropLast_concat_getLast _).symm⟩
    have hv : ∀ y ∈ vs, y < 18446744073709551616 := fun y hy => hu y (by simp [hy])
    rw [List.length_append, List.length_singleton] at h64
    have e : (put (vs ++ [x])).take (8 * (vs ++ [x]).length) = be 1 (vs.length + 1) ++ (rowBytes vs ++ (be 8 x).take 7) := by
      rw [hp, rowBytes_snoc, List.length_append, List.length_singleton, show 8 * (vs.length + 1) = 1 + (8 * vs.length + 7) by omega, List.take_append, be_length, List.take_of_length_le (by rw [be_length]; omega), show 1 + (8 * vs.length + 7) - 1 = 8 * vs.length + 7 by omega, List.take_append, rowBytes_length, List.take_of_length_le (by rw [rowBytes_length]; omega), show 8 * vs.length + 7 - 8 * vs.length = 7 by omega]
    have g2 : gotN (be 1 (vs.length + 1) ++ (rowBytes vs ++ (be 8 x).take 7)) = (vs ++ [0], (be 8 x).take 7, 10) := by
      have hs := T.tv_short (n := 8) (l := (be 8 x).take 7) (by rw [List.length_take, be_length]; omega)
      rw [gotN_front (by omega)]
      unfold T.nums
      rw [nums_rows vs _ hv _ (Nat.le_refl _)]
      simp only [List.take_length, List.drop_length]
      rw [show rowBytes [] ++ (be 8 x).take 7 = (be 8 x).take 7 from rfl, hs.1, hs.2.1, hs.2.2]
    rw [e]
    have := (getE_bad (l := be 1 (vs.length + 1) ++ (rowBytes vs ++ (be 8 x).take 7)) (by rw [g2]; simp)).1
    rw [this, g2]
  · exact (getE_form (by rw [g1]) (by rw [g1]; simp)).1
end Go.Proofs.YtnfhhhcbgipmcaaDoor.L
