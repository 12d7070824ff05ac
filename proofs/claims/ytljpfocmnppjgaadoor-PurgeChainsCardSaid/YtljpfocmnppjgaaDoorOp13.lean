/- What the reference's letter, whole, Name, find return: something. -/
import Derived.Test.YtljpfocmnppjgaaDoorOp6
import Derived.Laws.RangeAny
namespace Go.Proofs.YtljpfocmnppjgaaDoor
open Go Go.RowKit

set_option maxHeartbeats 1000000 in
theorem letter_any (c : Int) : ∃ b : Bool, ∀ w : World, Calls Tryd.prog 49 #[.int .i32 c] w fun e w' => e = .returned (.bool b) ∧ w = w' := by
  by_cases h1 : c < 65
  · refine ⟨false, fun w => ?_⟩
    have d1 : decide ((97 : Int) ≤ c) = false := by simp; omega
    have d2 : decide ((65 : Int) ≤ c) = false := by simp; omega
    have d3 : decide ((128 : Int) ≤ c) = false := by simp; omega
    go_enter Tryd.func49, Tryd.ntmps49
    go_wp2_with fail
    go_ret
    exact ⟨rfl, rfl⟩
  · by_cases h2 : c ≤ 90
    · refine ⟨true, fun w => ?_⟩
      have d1 : decide ((97 : Int) ≤ c) = false := by simp; omega
      have d2 : decide ((65 : Int) ≤ c) = true := by simp; omega
      have d3 : decide (c ≤ 90) = true := by simp; omega
      go_enter Tryd.func49, Tryd.ntmps49
      go_wp2_with fail
      go_ret
      exact ⟨rfl, rfl⟩
    · by_cases h3 : c < 97
      · refine ⟨false, fun w => ?_⟩
        have d1 : decide ((97 : Int) ≤ c) = false := by simp; omega
        have d2 : decide ((65 : Int) ≤ c) = true := by simp; omega
        have d3 : decide (c ≤ 90) = false := by simp; omega
        have d4 : decide ((128 : Int) ≤ c) = false := by simp; omega
        go_enter Tryd.func49, Tryd.ntmps49
        go_wp2_with fail
        go_ret
        exact ⟨rfl, rfl⟩
      · by_cases h4 : c ≤ 122
        · refine ⟨true, fun w => ?_⟩
          have d1 : decide ((97 : Int) ≤ c) = true := by simp; omega
          have d2 : decide (c ≤ 122) = true := by simp; omega
          go_enter Tryd.func49, Tryd.ntmps49
          go_wp2_with fail
          go_ret
          exact ⟨rfl, rfl⟩
        · by_cases h5 : c < 128
          · refine ⟨false, fun w => ?_⟩
            have d1 : decide ((97 : Int) ≤ c) = true := by simp; omega
            have d2 : decide (c ≤ 122) = false := by simp; omega
            have d3 : decide ((65 : Int) ≤ c) = true := by simp; omega
            have d4 : decide (c ≤ 90) = false := by simp; omega
            have d5 : decide ((128 : Int) ≤ c) = false := by simp; omega
            go_enter Tryd.func49, Tryd.ntmps49
            go_wp2_with fail
            go_ret
            exact ⟨rfl, rfl⟩
          · refine ⟨true, fun w => ?_⟩
            have d1 : decide ((97 : Int) ≤ c) = true := by simp; omega
            have d2 : decide (c ≤ 122) = false := by simp; omega
            have d3 : decide ((65 : Int) ≤ c) = true := by simp; omega
            have d4 : decide (c ≤ 90) = false := by simp; omega
            have d5 : decide ((128 : Int) ≤ c) = true := by simp; omega
            go_enter Tryd.func49, Tryd.ntmps49
            go_wp2_with fail
            go_ret
            exact ⟨rfl, rfl⟩

theorem decode_wide (s : ByteArray) (pos : Nat) (h : pos < s.size) : 1 ≤ (Utf8.decode s pos).2 := by
  by_cases ha : (s[pos]'h).toNat < 128
  · rw [decode_ascii s pos h ha]; exact Nat.le_refl _
  · exact (decode_high s pos h (by omega)).2
theorem iter_below (w : World) (s : ByteArray) (pos : Nat) : Below w.heap.size w (w.iter s pos) := (Below.refl _ _).alloc (Nat.le_refl _) _

set_option maxHeartbeats 1000000 in
theorem whole_any (s : ByteArray) (w : World) : Calls Tryd.prog 50 #[.string s] w fun e w' => ∃ b, e = .returned (.bool b) ∧ Below w.heap.size w w' := by
  go_enter Tryd.func50, Tryd.ntmps50
  go_wp2_with fail
  go_loopw [3] (fun t wr => ∃ (n : Int) (pos : Nat), t = .int .i64 n ∧ wr = w.iter s pos) (fun _ wr => s.size - wr.iterPos w.heap.size)
  case atStart => exact ⟨0, 0, rfl, rfl⟩
  case round =>
    obtain ⟨n, pos, rfl, rfl⟩ := hrel
    by_cases hp : pos < s.size
    · have hnx := fun ty => run_next_any (P := Tryd.prog) w s pos ty hp
      have hw := decode_wide s pos hp
      generalize (Utf8.decode s pos).2 = k at *
      generalize (Utf8.decode s pos).1 = c at *
      by_cases h1 : c < 128
      · have d1 : decide ((c : Int) < 128) = true := by simp; omega
        go_wp2_with fail
        go_roundw
        case rel => exact ⟨_, pos + k, rfl, rfl⟩
        case measure => rw [World.iterPos_iter, World.iterPos_iter]; omega
      · have d1 : decide ((c : Int) < 128) = false := by simp; omega
        by_cases h2 : c < 2048
        · have d2 : decide ((c : Int) < 2048) = true := by simp; omega
          go_wp2_with fail
          go_roundw
          case rel => exact ⟨_, pos + k, rfl, rfl⟩
          case measure => rw [World.iterPos_iter, World.iterPos_iter]; omega
        · have d2 : decide ((c : Int) < 2048) = false := by simp; omega
          by_cases h3 : c < 65536
          · have d3 : decide ((c : Int) < 65536) = true := by simp; omega
            go_wp2_with fail
            go_roundw
            case rel => exact ⟨_, pos + k, rfl, rfl⟩
            case measure => rw [World.iterPos_iter, World.iterPos_iter]; omega
          · have d3 : decide ((c : Int) < 65536) = false := by simp; omega
            go_wp2_with fail
            go_roundw
            case rel => exact ⟨_, pos + k, rfl, rfl⟩
            case measure => rw [World.iterPos_iter, World.iterPos_iter]; omega
    · have hnx := fun ty => run_next_end (P := Tryd.prog) w s pos ty hp
      go_wp2_with fail
      go_ret
      exact ⟨_, rfl, iter_below _ _ _⟩

set_option maxHeartbeats 1000000 in
theorem name_any (s : ByteArray) (w : World) : Calls Tryd.prog 38 #[.string s] w fun e w' => ∃ b, e = .returned (.bool b) ∧ Below w.heap.size w w' := by
  have HW := Lib.hid (fun W => whole_any s W)
  go_enter Tryd.func38, Tryd.ntmps38
  go_wp2_with fail
  go_loopw [3] (fun t wr => ∃ (n : Int) (pos : Nat), t = .int .i64 n ∧ wr = w.iter s pos) (fun _ wr => s.size - wr.iterPos w.heap.size)
  case atStart => exact ⟨0, 0, rfl, rfl⟩
  case round =>
    obtain ⟨n, pos, rfl, rfl⟩ := hrel
    by_cases hp : pos < s.size
    · have hnx := fun ty => run_next_any (P := Tryd.prog) w s pos ty hp
      have hw := decode_wide s pos hp
      generalize (Utf8.decode s pos).2 = k at *
      generalize (Utf8.decode s pos).1 = c at *
      obtain ⟨b, hb⟩ := letter_any (c : Int)
      have HL := Lib.hid hb
      clear hb
      cases b with
      | true =>
        go_wp2_with fail
        refine (HL.out _).mono ?_
        rintro e w' ⟨rfl, rfl⟩
        go_wp2_with fail
        go_roundw
        case rel => exact ⟨_, pos + k, rfl, rfl⟩
        case measure => rw [World.iterPos_iter, World.iterPos_iter]; omega
      | false =>
        go_wp2_with fail
        refine (HL.out _).mono ?_
        rintro e w' ⟨rfl, rfl⟩
        go_wp2_with fail
        go_ret
        exact ⟨_, rfl, iter_below _ _ _⟩
    · have hnx := fun ty => run_next_end (P := Tryd.prog) w s pos ty hp
      go_wp2_with fail
      refine (HW.out _).mono ?_
      rintro e w3 ⟨b, rfl, hx⟩
      have hfin := Lib.hid (below_next (iter_below w s pos) hx)
      clear hx hnx
      cases b with
      | false =>
        go_wp2_with fail
        go_ret
        exact ⟨_, rfl, hfin.out⟩
      | true =>
        by_cases h1 : 1 ≤ n
        · have d1 : decide ((1 : Int) ≤ n) = true := by simpa using h1
          go_wp2_with fail
          go_ret
          exact ⟨_, rfl, hfin.out⟩
        · have d1 : decide ((1 : Int) ≤ n) = false := by simpa using h1
          go_wp2_with fail
          go_ret
          exact ⟨_, rfl, hfin.out⟩

set_option maxHeartbeats 1000000 in
theorem find_any (l : List (List UInt8)) (s : List UInt8) : ∃ r : Int, ∀ (v : Value) (w : World), Ks w v l → Calls Tryd.prog 39 #[v, .string (str s)] w fun e w' => e = .returned (.int .i64 r) ∧ w = w' := by
  have hex : ∃ r : Nat, r ≤ l.length ∧ (∀ j (h : j < l.length), j < r → l[j] ≠ s) ∧ (∀ h : r < l.length, l[r] = s) := by
    induction l with
    | nil => exact ⟨0, Nat.le_refl _, (fun j h => by simp at h), (fun h => by simp at h)⟩
    | cons x l ih =>
      by_cases hx : x = s
      · exact ⟨0, by simp, (fun j h h2 => by omega), (fun h => by simpa using hx)⟩
      · obtain ⟨r, h1, h2, h3⟩ := ih
        refine ⟨r + 1, by simpa using h1, fun j h h' => ?_, fun h => by simpa using h3 (by simpa using h)⟩
        cases j with
        | zero => simpa using hx
        | succ j => simpa using h2 j (by simpa using h) (by omega)
  obtain ⟨r, h1, h2, h3⟩ := hex
  have HB := Lib.hid h2
  have HR := Lib.hid h3
  clear h2 h3
  refine ⟨if r < l.length then (r : Int) else -1, fun v w hv => ?_⟩
  obtain ⟨ao, cap, rfl, -⟩ := hv.shape
  have hbig := hv.len
  have HV := Lib.hid hv
  clear hv
  obtain ⟨n, hn⟩ : ∃ n, l.length = n := ⟨_, rfl⟩
  have HN := Lib.hid hn
  rw [hn] at HV h1 hbig ⊢
  clear hn
  by_cases hr : r < n
  · rw [if_pos hr]
    go_enter Tryd.func39, Tryd.ntmps39
    go_wp2_with fail
    go_loopw [5] (fun i wr => ∃ k : Nat, k ≤ r ∧ i = .int .i64 k ∧ w = wr) (fun i _ => n - (intOf i).toNat)
    case atStart => exact ⟨0, by omega, rfl, rfl⟩
    case round =>
      obtain ⟨k, hk, rfl, rfl⟩ := hrel
      have hkI : (k : Int) < (n : Int) := by omega
      have hk0 : (0 : Int) ≤ (k : Int) := by omega
      obtain ⟨b, off, rfl, hat⟩ := HV.out.at (j := k) (by rw [HN.out]; omega)
      have hc := hat w (Below.refl _ _) k (by rw [HN.out]; omega)
      by_cases hkr : k = r
      · subst hkr
        rw [HR.out (by rw [HN.out]; exact hr)] at hc
        have d : (s == s) = true := by simp
        clear hat
        go_wp2_with fail
        go_ret
        exact ⟨rfl, rfl⟩
      · have hne := HB.out k (by rw [HN.out]; omega) (by omega)
        obtain ⟨x, hx⟩ : ∃ x, l[k]'(by rw [HN.out]; omega) = x := ⟨_, rfl⟩
        rw [hx] at hc hne
        have d : (x == s) = false := by simpa using hne
        clear hat hne hx
        go_wp2_with fail
        go_roundw
        case rel => exact ⟨k + 1, by omega, by go_num, by first | rfl | trivial⟩
        case measure => simp [intOf]; omega
  · rw [if_neg hr]
    go_enter Tryd.func39, Tryd.ntmps39
    go_wp2_with fail
    go_loopw [5] (fun i wr => ∃ k : Nat, k ≤ n ∧ i = .int .i64 k ∧ w = wr) (fun i _ => n - (intOf i).toNat)
    case atStart => exact ⟨0, by omega, rfl, rfl⟩
    case round =>
      obtain ⟨k, hk, rfl, rfl⟩ := hrel
      by_cases hkn : k < n
      · have hkI : (k : Int) < (n : Int) := by omega
        have hk0 : (0 : Int) ≤ (k : Int) := by omega
        obtain ⟨b, off, rfl, hat⟩ := HV.out.at (j := k) (by rw [HN.out]; omega)
        have hc := hat w (Below.refl _ _) k (by rw [HN.out]; omega)
        have hne := HB.out k (by rw [HN.out]; omega) (by omega)
        obtain ⟨x, hx⟩ : ∃ x, l[k]'(by rw [HN.out]; omega) = x := ⟨_, rfl⟩
        rw [hx] at hc hne
        have d : (x == s) = false := by simpa using hne
        clear hat hne hx
        go_wp2_with fail
        go_roundw
        case rel => exact ⟨k + 1, by omega, by go_num, by first | rfl | trivial⟩
        case measure => simp [intOf]; omega
      · go_wp2_with fail
        go_ret
        exact ⟨rfl, rfl⟩
end Go.Proofs.YtljpfocmnppjgaaDoor
