/- What purge.Flows, the reference's Flows and its union return. -/
import Derived.Test.YtljpfocmnppjgaaDoorOp
namespace Go.Proofs.YtljpfocmnppjgaaDoor
open Go Go.RowKit

set_option maxHeartbeats 400000 in
theorem refIn_any (s : Nat) (x : Int) (hs : s < 18446744073709551616) (w : World) :
    Calls Tryd.prog 32 #[.int .u64 s, .int .i64 x] w fun e w' => e = .returned (.bool (L.inn s x)) ∧ w = w' := by
  unfold L.inn
  by_cases h0 : 0 ≤ x
  · by_cases h1 : x < 64
    · obtain ⟨k, rfl⟩ : ∃ k : Nat, x = (k : Int) := ⟨x.toNat, by omega⟩
      have d0 : decide ((0 : Int) ≤ (k : Int)) = true := by simp
      have d1 : decide ((k : Int) < 64) = true := by simpa using h1
      have HB := Lib.hid (fun W => refBit_any s k hs (by omega) W)
      rw [d0, d1, Int.toNat_natCast, Bool.true_and, Bool.true_and]
      go_enter Tryd.func32, Tryd.ntmps32
      go_wp2_with fail
      refine (HB.out _).mono ?_
      rintro e w' ⟨rfl, rfl⟩
      go_wp2_with fail
      go_ret
      exact ⟨rfl, rfl⟩
    · have d0 : decide ((0 : Int) ≤ x) = true := by simpa using h0
      have d1 : decide (x < 64) = false := by simpa using h1
      rw [d0, d1]
      go_enter Tryd.func32, Tryd.ntmps32
      go_wp2_with fail
      go_ret
      exact ⟨rfl, rfl⟩
  · have d0 : decide ((0 : Int) ≤ x) = false := by simpa using h0
    rw [d0]
    go_enter Tryd.func32, Tryd.ntmps32
    go_wp2_with fail
    go_ret
    exact ⟨rfl, rfl⟩

set_option maxHeartbeats 1000000 in
theorem flows_any (vn vu vq vg : Value) (gs : List Gr) (o : Opr) (u : Value) (s : Nat) (w : World) (hg : Gs w vg gs) (hs : s < 18446744073709551616) :
    Calls Tryd.prog 9 #[cfv vn vu vq vg, opv (o.put u), .int .u64 s] w fun e w' => e = .returned (.bool (L.flows gs o s)) ∧ Below w.heap.size w w' := by
  have HM := Lib.hid (fun W (hW : Below w.heap.size w W) => may_any vg gs (o.level, o.label, o.to) W (Three.Ss.below hg hW))
  have HI := Lib.hid (fun W => in_any s o.to hs W)
  obtain ⟨o0, o1, o2, o3, o4, o5, o6, o7, o8, o9, k⟩ := o
  have hb : Below w.heap.size w ((w.alloc (.cells #[vn, vu, vq, vg] 27)).alloc (.cells #[.int .i64 o0, .int .i64 o1, .int .i64 o2, .int .i64 o3, .string (str o4), .string (str o5), .string (str o6), .int .i64 o7, .int .i64 o8, .int .i64 o9, u] 34)) := ((Below.refl _ _).alloc (Nat.le_refl _) _).alloc (by simp) _
  have HBX := Lib.hid hb
  clear hb hg
  simp only [Op11.put, L.flows] at HM HI ⊢
  by_cases h15 : o0 = 15
  · have d0 : (o0 == 15) = true := by simp [h15]
    have d0' : decide (o0 = 15) = true := by simp [h15]
    rw [d0', Bool.true_and]
    clear d0'
    subst h15
    generalize gs.contains (o1, o7, o8) = c at *
    cases hbt : L.inn s o8 with
    | true =>
      rw [hbt] at HI
      rw [Bool.true_and]
      clear hbt
      go_enter Tryd.func9, Tryd.ntmps9
      go_wp2_with fail
      refine (HI.out _).mono ?_
      rintro e w' ⟨rfl, rfl⟩
      go_wp2_with fail
      refine (HM.out _ HBX.out).mono ?_
      rintro e w2 ⟨rfl, hx⟩
      have hfin := Lib.hid (below_next HBX.out hx)
      clear hx HM HI
      go_wp2_with fail
      go_ret
      exact ⟨rfl, hfin.out⟩
    | false =>
      rw [hbt] at HI
      rw [Bool.false_and]
      clear hbt HM
      go_enter Tryd.func9, Tryd.ntmps9
      go_wp2_with fail
      refine (HI.out _).mono ?_
      rintro e w' ⟨rfl, rfl⟩
      go_wp2_with fail
      go_ret
      exact ⟨rfl, HBX.out⟩
  · have d0 : (o0 == 15) = false := by simp [h15]
    have d0' : decide (o0 = 15) = false := by simp [h15]
    rw [d0', Bool.false_and]
    clear HM h15 d0'
    go_enter Tryd.func9, Tryd.ntmps9
    go_wp2_with fail
    go_ret
    exact ⟨rfl, HBX.out⟩

set_option maxHeartbeats 1000000 in
theorem refFlows_any (vn vu vq vg : Value) (gs : List Gr) (o : Opr) (u : Value) (s : Nat) (w : World) (hg : Gs w vg gs) (hs : s < 18446744073709551616) :
    Calls Tryd.prog 10 #[cfv vn vu vq vg, opv (o.put u), .int .u64 s] w fun e w' => e = .returned (.bool (L.flows gs o s)) ∧ Below w.heap.size w w' := by
  have HM := Lib.hid (fun W (hW : Below w.heap.size w W) => refMay_any vg gs (o.level, o.label, o.to) W (Three.Ss.below hg hW))
  have HB := Lib.hid (fun (k : Nat) (hk : k ≤ 64) W => refBit_any s k hs hk W)
  obtain ⟨o0, o1, o2, o3, o4, o5, o6, o7, o8, o9, k⟩ := o
  have hb : Below w.heap.size w ((w.alloc (.cells #[vn, vu, vq, vg] 27)).alloc (.cells #[.int .i64 o0, .int .i64 o1, .int .i64 o2, .int .i64 o3, .string (str o4), .string (str o5), .string (str o6), .int .i64 o7, .int .i64 o8, .int .i64 o9, u] 34)) := ((Below.refl _ _).alloc (Nat.le_refl _) _).alloc (by simp) _
  have HBX := Lib.hid hb
  clear hb hg
  simp only [Op11.put, L.flows] at HM ⊢
  by_cases h15 : o0 = 15
  · have d0 : (o0 == 15) = true := by simp [h15]
    have d0' : decide (o0 = 15) = true := by simp [h15]
    rw [d0', Bool.true_and]
    clear d0'
    subst h15
    by_cases hi0 : 0 ≤ o8
    · by_cases hi1 : o8 < 64
      · obtain ⟨x, rfl⟩ : ∃ x : Nat, o8 = (x : Int) := ⟨o8.toNat, by omega⟩
        have e1 : decide ((0 : Int) ≤ (x : Int)) = true := by simp
        have e2 : decide ((x : Int) < 64) = true := by simpa using hi1
        have HBx := Lib.hid (HB.out x (by omega))
        unfold L.inn
        rw [e1, e2, Int.toNat_natCast, Bool.true_and, Bool.true_and]
        clear HB
        generalize gs.contains (o1, o7, (x : Int)) = c at *
        cases hbt : s.testBit x with
        | true =>
          rw [hbt] at HBx
          rw [Bool.true_and]
          clear hbt
          go_enter Tryd.func10, Tryd.ntmps10
          go_wp2_with fail
          refine (HBx.out _).mono ?_
          rintro e w' ⟨rfl, rfl⟩
          go_wp2_with fail
          refine (HM.out _ HBX.out).mono ?_
          rintro e w2 ⟨rfl, hx⟩
          have hfin := Lib.hid (below_next HBX.out hx)
          clear hx HM HBx
          go_wp2_with fail
          go_ret
          exact ⟨rfl, hfin.out⟩
        | false =>
          rw [hbt] at HBx
          rw [Bool.false_and]
          clear hbt HM
          go_enter Tryd.func10, Tryd.ntmps10
          go_wp2_with fail
          refine (HBx.out _).mono ?_
          rintro e w' ⟨rfl, rfl⟩
          go_wp2_with fail
          go_ret
          exact ⟨rfl, HBX.out⟩
      · have e1 : decide ((0 : Int) ≤ o8) = true := by simpa using hi0
        have e2 : decide (o8 < 64) = false := by simpa using hi1
        have hz : (L.inn s o8 && gs.contains (o1, o7, o8)) = false := by unfold L.inn; rw [e1, e2]; rfl
        rw [hz]
        clear hz HM HB
        go_enter Tryd.func10, Tryd.ntmps10
        go_wp2_with fail
        go_ret
        exact ⟨rfl, HBX.out⟩
    · have e1 : decide ((0 : Int) ≤ o8) = false := by simpa using hi0
      have hz : (L.inn s o8 && gs.contains (o1, o7, o8)) = false := by unfold L.inn; rw [e1]; rfl
      rw [hz]
      clear hz HM HB
      go_enter Tryd.func10, Tryd.ntmps10
      go_wp2_with fail
      go_ret
      exact ⟨rfl, HBX.out⟩
  · have d0 : (o0 == 15) = false := by simp [h15]
    have d0' : decide (o0 = 15) = false := by simp [h15]
    rw [d0', Bool.false_and]
    clear HM h15 d0'
    go_enter Tryd.func10, Tryd.ntmps10
    go_wp2_with fail
    go_ret
    exact ⟨rfl, HBX.out⟩

set_option maxHeartbeats 1000000 in
theorem union_any (a b : Nat) (ha : a < 18446744073709551616) (hb : b < 18446744073709551616) (w : World) :
    Calls Tryd.prog 21 #[.int .u64 a, .int .u64 b] w fun e w' => e = .returned (.int .u64 (a ||| b : Nat)) ∧ w = w' := by
  have HA := Lib.hid (fun (k : Nat) (hk : k ≤ 64) W => refBit_any a k ha hk W)
  have HB := Lib.hid (fun (k : Nat) (hk : k ≤ 64) W => refBit_any b k hb hk W)
  have HE : Hid (ofBits 64 (a ||| b).testBit = a ||| b) := ofBits_testBit (Nat.or_lt_two_pow ha hb)
  clear ha hb
  go_enter Tryd.func21, Tryd.ntmps21
  go_wp2_with fail
  go_loop [5, 6] (fun t i => ∃ k : Nat, k ≤ 64 ∧ i = .int .i64 k ∧ t = .int .u64 (ofBits k (a ||| b).testBit : Nat)) (fun _ i => 64 - (intOf i).toNat)
  case atStart => exact ⟨0, by omega, rfl, rfl⟩
  case round =>
    obtain ⟨k, hk, rfl, rfl⟩ := hrel
    by_cases hlt : k < 64
    · have hk' : (k : Int) < 64 := by omega
      have hor : (a ||| b).testBit k = (a.testBit k || b.testBit k) := Nat.testBit_or a b k
      have hst := ofBits_succ k (a ||| b).testBit
      have hlt2 := ofBits_lt k (a ||| b).testBit
      have hp := pow_le64 (show k + 1 ≤ 64 by omega)
      rw [Nat.pow_succ] at hp
      rw [hor] at hst
      have s1 := Lib.hid (HA.out k (by omega))
      have s2 := Lib.hid (HB.out k (by omega))
      have HO := Lib.hid (fun W => refOne_any k hlt W)
      obtain ⟨x, hx⟩ : ∃ x, ofBits k (a ||| b).testBit = x := ⟨_, rfl⟩
      obtain ⟨p, hpp⟩ : ∃ p, 2 ^ k = p := ⟨_, rfl⟩
      rw [hx] at hst hlt2 ⊢
      rw [hpp] at hst hlt2 hp HO
      have HS := Lib.hid hst
      have fz : IntKind.u64.wrap ((x : Int) + (p : Int)) = ((x + p : Nat) : Int) := by rw [IntKind.wrap_u64] <;> omega
      clear hx hpp hor hst
      cases h1 : a.testBit k with
      | true =>
        rw [h1] at s1 HS
        clear h1 s2
        go_wp2_with fail
        refine (s1.out _).mono ?_
        rintro e w' ⟨rfl, rfl⟩
        go_wp2_with fail
        refine (HO.out _).mono ?_
        rintro e w' ⟨rfl, rfl⟩
        go_wp2_with fail
        go_round
        case rel => exact ⟨k + 1, by omega, by go_num, by rw [HS.out]; simp⟩
        case measure => simp [intOf]; omega
      | false =>
        cases h2 : b.testBit k with
        | true =>
          rw [h1] at s1 HS
          rw [h2] at s2 HS
          clear h1 h2
          go_wp2_with fail
          refine (s1.out _).mono ?_
          rintro e w' ⟨rfl, rfl⟩
          go_wp2_with fail
          refine (s2.out _).mono ?_
          rintro e w' ⟨rfl, rfl⟩
          go_wp2_with fail
          refine (HO.out _).mono ?_
          rintro e w' ⟨rfl, rfl⟩
          go_wp2_with fail
          go_round
          case rel => exact ⟨k + 1, by omega, by go_num, by rw [HS.out]; simp⟩
          case measure => simp [intOf]; omega
        | false =>
          rw [h1] at s1 HS
          rw [h2] at s2 HS
          clear h1 h2 HO
          go_wp2_with fail
          refine (s1.out _).mono ?_
          rintro e w' ⟨rfl, rfl⟩
          go_wp2_with fail
          refine (s2.out _).mono ?_
          rintro e w' ⟨rfl, rfl⟩
          go_wp2_with fail
          go_round
          case rel => exact ⟨k + 1, by omega, by go_num, by rw [HS.out]; simp⟩
          case measure => simp [intOf]; omega
    · obtain rfl : k = 64 := by omega
      rw [HE.out]
      go_wp2_with fail
      go_ret
      exact ⟨rfl, rfl⟩
end Go.Proofs.YtljpfocmnppjgaaDoor
