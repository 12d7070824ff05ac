/- What small returns: are rows few? -/
import Derived.Test.YtgipmbphbcnhcaaRwUnion
namespace Go.Proofs.Ytgipmbphbcnhcaa
open Go Go.RowKit

set_option maxRecDepth 4000 in
set_option maxHeartbeats 1000000 in
theorem small_any (v : Value) (rows : List (List Rw)) (w : World) (h : Vs w v rows) (hl : rows.length + rows.flatten.length ≤ 4611686018427387904) :
    Calls Try.prog 7 #[v] w fun e w' => ∃ b, e = .returned (.bool b) ∧ (b = true → rows.length + rows.flatten.length ≤ 120) ∧ Below w.heap.size w w' := by
  obtain ⟨ao, cap, rfl, -⟩ := h.shape
  have HV := Lib.hid h
  have hbig := h.len
  clear h
  obtain ⟨n, hn⟩ : ∃ n, rows.length = n := ⟨_, rfl⟩
  rw [hn] at HV hl hbig ⊢
  have HN := Lib.hid hn
  clear hn
  obtain ⟨T, hT⟩ : ∃ T, n + rows.flatten.length = T := ⟨_, rfl⟩
  rw [hT] at hl ⊢
  have HT := Lib.hid hT
  clear hT
  go_enter Try.func7, Try.ntmps7
  go_wp2_with fail
  go_loopw [3, 4] (fun t u wr => ∃ (i s : Nat), i ≤ n ∧ s ≤ T ∧ u = .int .i64 i ∧ t = .int .i64 s ∧ Hid (n + (rows.take i).flatten.length = s) ∧ Hid (Below w.heap.size w wr)) (fun _ u _ => n - (intOf u).toNat)
  case atStart => exact ⟨0, n, by omega, by have := HT.out; omega, rfl, rfl, by simp [Hid], Below.refl _ _⟩
  case round =>
    obtain ⟨i, s, hi, hs, rfl, rfl, HS, hbr⟩ := hrel
    by_cases hin : i < n
    · have hin' : (i : Int) < (n : Int) := by omega
      obtain ⟨b, off, x, rfl, hx, hc⟩ := HV.out.at (j := i) (by rw [HN.out]; exact hin)
      have hfl : (rows.take i).flatten.length + (rows[i]'(by rw [HN.out]; exact hin)).length ≤ rows.flatten.length := S.flat_len _
      have hst : (rows.take (i + 1)).flatten.length = (rows.take i).flatten.length + (rows[i]'(by rw [HN.out]; exact hin)).length := by rw [S.flat_step (by rw [HN.out]; exact hin), List.length_append]
      obtain ⟨px, cx, rfl, -⟩ := hx.shape
      have hcell := hc wr hbr.out
      obtain ⟨m, hm⟩ : ∃ m, (rows[i]'(by rw [HN.out]; exact hin)).length = m := ⟨_, rfl⟩
      rw [hm] at hfl hst hcell
      have hsm : s + m ≤ T := by have := HT.out; have := HS.out; omega
      have HS2 : Hid (n + (rows.take (i + 1)).flatten.length = s + m) := by have := HS.out; unfold Hid; omega
      clear hx hc hm hfl hst HS
      go_wp2_with fail
      go_roundw
      case rel => exact ⟨i + 1, s + m, by omega, hsm, by go_num, by go_num, HS2, hbr⟩
      case measure => simp [intOf]; omega
    · have hst : s = T := by
        have h1 := HS.out
        rw [List.take_of_length_le (by rw [HN.out]; omega)] at h1
        have := HT.out
        omega
      subst hst
      by_cases h120 : s ≤ 120
      · have hd : (s : Int) ≤ 120 := by omega
        go_wp2_with fail
        go_ret
        exact ⟨true, rfl, fun _ => h120, hbr.out⟩
      · have hd : decide ((s : Int) ≤ 120) = false := by rw [decide_eq_false_iff_not]; omega
        go_wp2_with fail
        go_ret
        exact ⟨false, rfl, (fun h => by cases h), hbr.out⟩
end Go.Proofs.Ytgipmbphbcnhcaa
