/- What cmp.Compare and cmp.Or return at ints. -/
import Derived.Test.YtgipmbphbcnhcaaRows
import Derived.Test.YtgipmbphbcnhcaaBase
namespace Go.Proofs.Ytgipmbphbcnhcaa
open Go Go.RowKit

def ordI (a b : Int) : Int := if a < b then -1 else if b < a then 1 else 0
def orI : List Int → Int
  | [] => 0
  | x :: xs => if x = 0 then orI xs else x

theorem nanI_any (a : Int) (w : World) : Calls Try.prog 23 #[.int .i64 a] w fun e w' => e = .returned (.bool false) ∧ w = w' := by
  have d : (a != a) = false := by simp
  go_enter Try.func23, Try.ntmps23
  go_wp2_with fail
  go_ret
  exact ⟨rfl, rfl⟩

set_option maxHeartbeats 400000 in
theorem ordI_any (a b : Int) (w : World) : Calls Try.prog 20 #[.int .i64 a, .int .i64 b] w fun e w' => e = .returned (.int .i64 (ordI a b)) ∧ w = w' := by
  by_cases h1 : a < b
  · have d1 : decide (a < b) = true := by simp [h1]
    have hr : ordI a b = -1 := by simp [ordI, h1]
    rw [hr]
    clear hr
    go_enter Try.func20, Try.ntmps20
    go_wp2_with fail
    refine (nanI_any a _).mono ?_
    rintro e w' ⟨rfl, rfl⟩
    go_wp2_with fail
    refine (nanI_any b _).mono ?_
    rintro e w' ⟨rfl, rfl⟩
    go_wp2_with fail
    go_ret
    exact ⟨rfl, rfl⟩
  · have d1 : decide (a < b) = false := by simp [h1]
    by_cases h2 : b < a
    · have d2 : decide (b < a) = true := by simp [h2]
      have hr : ordI a b = 1 := by simp [ordI, h1, h2]
      rw [hr]
      clear hr
      go_enter Try.func20, Try.ntmps20
      go_wp2_with fail
      refine (nanI_any a _).mono ?_
      rintro e w' ⟨rfl, rfl⟩
      go_wp2_with fail
      refine (nanI_any b _).mono ?_
      rintro e w' ⟨rfl, rfl⟩
      go_wp2_with fail
      go_ret
      exact ⟨rfl, rfl⟩
    · have d2 : decide (b < a) = false := by simp [h2]
      have hr : ordI a b = 0 := by simp [ordI, h1, h2]
      rw [hr]
      clear hr
      go_enter Try.func20, Try.ntmps20
      go_wp2_with fail
      refine (nanI_any a _).mono ?_
      rintro e w' ⟨rfl, rfl⟩
      go_wp2_with fail
      refine (nanI_any b _).mono ?_
      rintro e w' ⟨rfl, rfl⟩
      go_wp2_with fail
      go_ret
      exact ⟨rfl, rfl⟩

/-- The slice value v reads as the ints xs. -/
def Zs (w : World) (v : Value) (xs : List Int) : Prop := Sl w 1 xs.length v (xs.map (Value.int .i64))
theorem Zs.lit {w : World} {e : TypeId} {fz : Nat × Nat} {vs : Array Value} (xs : List Int) (n : Nat) (hn : xs.length = n) (h : n ≤ maxLen) (hv : vs = (xs.map (Value.int .i64)).toArray) : Zs (w.alloc (.cells vs e fz)) (.slice (some ⟨w.heap.size, 0, none⟩) n n) xs := by
  have := Sl.lit w e 1 n vs fz (by rw [hv]; simp [hn]) h
  subst hn hv
  exact this
theorem Zs.at {w : World} {ao : Option Addr} {len cap : Nat} {xs : List Int} (h : Zs w (.slice ao len cap) xs) {j : Nat} (hj : j < xs.length) :
    ∃ b off, ao = some ⟨b, off, none⟩ ∧ ∀ i (hi : i < xs.length), w.cell? ⟨b, off + i, none⟩ = some (.int .i64 xs[i]) := by
  obtain ⟨b, off, e, hc⟩ := Sl.at (j := j) h (by simpa using hj)
  refine ⟨b, off, e, fun i hi => ?_⟩
  have := hc i (by simpa using hi)
  rw [this]
  simp

theorem orI_skip (xs : List Int) : ∀ k, k ≤ xs.length → (∀ i, (h : i < xs.length) → i < k → xs[i] = 0) → orI xs = orI (xs.drop k) := by
  induction xs with
  | nil => intro k _ _; simp
  | cons x xs ih =>
    intro k hk h
    cases k with
    | zero => rfl
    | succ k =>
      have hx : x = 0 := h 0 (by simp) (by omega)
      rw [List.drop_succ_cons, ← ih k (by simpa using hk) (fun i hi hik => by have := h (i + 1) (by simpa using hi) (by omega); rwa [List.getElem_cons_succ] at this)]
      simp [orI, hx]
set_option maxHeartbeats 400000 in
theorem or_any (v : Value) (xs : List Int) (w : World) (h : Zs w v xs) :
    Calls Try.prog 18 #[v] w fun e w' => e = .returned (.int .i64 (orI xs)) ∧ w = w' := by
  have hbig : xs.length ≤ 9223372036854775807 := by
    obtain ⟨_, ao', cap', _, h1, h2, _⟩ := h
    unfold maxLen at h2
    omega
  obtain ⟨ao, cap, rfl, -⟩ := Sl.shape h
  have HB := Lib.hid h
  clear h
  obtain ⟨N, hN⟩ : ∃ N, xs.length = N := ⟨_, rfl⟩
  rw [hN] at HB hbig ⊢
  have HN := Lib.hid hN
  clear hN
  go_enter Try.func18, Try.ntmps18
  go_wp2_with fail
  go_loop [8] (fun i => ∃ k : Nat, k ≤ N ∧ i = .int .i64 k ∧ Hid (∀ i, (h : i < xs.length) → i < k → xs[i] = 0)) (fun i => N - (intOf i).toNat)
  case atStart => exact ⟨0, by omega, rfl, fun i _ hi => absurd hi (Nat.not_lt_zero _)⟩
  case round =>
    obtain ⟨k, hk, rfl, hz⟩ := hrel
    have HS := Lib.hid (orI_skip xs k (by have := HN.out; omega) hz.out)
    by_cases hlt : k < N
    · have hkx : k < xs.length := by have := HN.out; omega
      obtain ⟨b, off, rfl, hc⟩ := HB.out.at hkx
      replace hc := hc k hkx
      have hd : xs.drop k = xs[k] :: xs.drop (k + 1) := List.drop_eq_getElem_cons hkx
      rw [hd] at HS
      have hnext : Hid (xs[k] = 0 → ∀ i, (h : i < xs.length) → i < k + 1 → xs[i] = 0) := fun h0 i hi hik => by
        by_cases e : i = k
        · subst e; exact h0
        · exact hz.out i hi (by omega)
      clear hd
      obtain ⟨x, hx⟩ : ∃ x, xs[k] = x := ⟨_, rfl⟩
      rw [hx] at hc HS hnext
      clear hx hkx hz
      by_cases h0 : x = 0
      · subst h0
        replace hnext := Lib.hid (hnext.out rfl)
        clear HS
        go_wp2_with fail
        go_round
        case rel => exact ⟨k + 1, by omega, by go_num, hnext⟩
        case measure => simp [intOf]; omega
      · have d0 : (x != 0) = true := by simp [h0]
        have hfin : Hid (orI xs = x) := by unfold Hid; rw [HS.out]; simp [orI, h0]
        clear HS hnext h0
        go_wp2_with fail
        go_ret
        exact ⟨by rw [hfin.out]; rfl, rfl⟩
    · obtain rfl : k = N := by omega
      have hfin : Hid (orI xs = 0) := by
        unfold Hid
        rw [HS.out, List.drop_of_length_le (by have := HN.out; omega)]
        rfl
      clear HS hz
      go_wp2_with fail
      go_ret
      exact ⟨by rw [hfin.out]; rfl, rfl⟩
end Go.Proofs.Ytgipmbphbcnhcaa
