/- LatticeTells returns true. -/
import Derived.Test.YtnfhhhcbgipmcaaDoorAwThree
import Derived.Test.YtnfhhhcbgipmcaaDoorRefCheck
import Derived.Test.YtnfhhhcbgipmcaaDoorRefClose
namespace Go.Proofs.YtnfhhhcbgipmcaaDoor
open Go Go.RowKit

set_option maxRecDepth 4000 in
set_option maxHeartbeats 1000000 in
theorem latTells_any (v : Value) (us : List Nat) (a b : Int) (w : World) (hv : Us w v us) (hu : U64s us) (ht : DTab w) :
    Calls Tryd.prog 3 #[v, .int .i64 a, .int .i64 b] w fun e w' => e = .returned (.bool true) ∧ Below w.heap.size w w' := by
  obtain ⟨ao, cap, rfl, -⟩ := hv.shape
  have hbig := hv.len
  have HV := Lib.hid hv
  have HU := Lib.hid hu
  have HT := Lib.hid ht
  have HA := Lib.hid (aw3_any w ht)
  clear hv hu ht
  by_cases h70 : 70 < us.length
  · have d0 : decide ((70 : Int) < (us.length : Int)) = true := by simp; omega
    go_enter Tryd.func3, Tryd.ntmps3
    go_wp2_with fail
    refine HA.out.mono ?_
    rintro e w1 ⟨rfl, hb1⟩
    go_wp2_with fail
    go_ret
    exact ⟨rfl, hb1⟩
  · have d0 : decide ((70 : Int) < (us.length : Int)) = false := by simp; omega
    have step : ∀ {W W' : World}, Below w.heap.size w W → Below W.heap.size W W' → Below w.heap.size w W' := fun h k => below_next h k
    go_enter Tryd.func3, Tryd.ntmps3
    go_wp2_with fail
    refine HA.out.mono ?_
    rintro e w1 ⟨rfl, hb1⟩
    clear HA
    go_wp2_with fail
    refine (leq_any _ us a b w1 (HV.out.below hb1) HU.out).mono ?_
    rintro e w' ⟨rfl, rfl⟩
    go_wp2_with fail
    refine (refLeq_any _ us a b w1 (HV.out.below hb1) HU.out).mono ?_
    rintro e w' ⟨rfl, rfl⟩
    generalize L.leq us a b = q
    have dq : (q != q) = false := by simp
    go_wp2_with fail
    refine (down_any _ us a w1 (HV.out.below hb1) HU.out).mono ?_
    rintro e w' ⟨rfl, rfl⟩
    go_wp2_with fail
    refine (refDown_any _ us a w1 (HV.out.below hb1) HU.out).mono ?_
    rintro e w' ⟨rfl, rfl⟩
    generalize L.down us a = dn
    have dd : ((dn : Int) != (dn : Int)) = false := by simp
    go_wp2_with fail
    refine (join_any _ us a b w1 (HV.out.below hb1) HU.out (HT.out.below hb1)).mono ?_
    rintro e w2 ⟨rfl, hb⟩
    have hb2 := below_next hb1 hb
    clear hb hb1
    go_wp2_with fail
    refine (refJoin_any _ us a b w2 (HV.out.below hb2) HU.out).mono ?_
    rintro e w' ⟨rfl, rfl⟩
    generalize L.join us a b = j
    have dj : (j != j) = false := by simp
    go_wp2_with fail
    refine (meet_any _ us a b w2 (HV.out.below hb2) HU.out (HT.out.below hb2)).mono ?_
    rintro e w3 ⟨rfl, hb⟩
    have hb3 := below_next hb2 hb
    clear hb hb2
    go_wp2_with fail
    refine (refMeet_any _ us a b w3 (HV.out.below hb3) HU.out).mono ?_
    rintro e w4 ⟨rfl, hb⟩
    have hb4 := below_next hb3 hb
    clear hb hb3
    generalize L.meet us a b = m
    have dm : (m != m) = false := by simp
    by_cases hmid : 12 < us.length ∧ us.length ≤ 64
    · have d1 : decide ((12 : Int) < (us.length : Int)) = true := by simp; omega
      have d2 : decide ((us.length : Int) ≤ 64) = true := by simp; omega
      clear hmid h70
      go_wp2_with fail
      go_ret
      exact ⟨rfl, hb4⟩
    · by_cases h12 : 12 < us.length
      · have d1 : decide ((12 : Int) < (us.length : Int)) = true := by simp; omega
        have d2 : decide ((us.length : Int) ≤ 64) = false := by simp; omega
        clear hmid h70 h12
        go_wp2_with fail
        refine (check_any _ us w4 (HV.out.below hb4) HU.out (HT.out.below hb4)).mono ?_
        rintro e w5 ⟨rfl, hb⟩
        have hb5 := below_next hb4 hb
        clear hb hb4
        go_wp2_with fail
        refine (refCheck_any _ us w5 (HV.out.below hb5) HU.out).mono ?_
        rintro e w6 ⟨rfl, hb⟩
        have hb6 := below_next hb5 hb
        clear hb hb5
        generalize L.check us = ck
        have dc : (ck == ck) = true := by simp
        go_wp2_with fail
        refine (close_any _ us w6 (HV.out.below hb6) HU.out).mono ?_
        rintro e w7 ⟨v7, rfl, hown, hb⟩
        have hb7 := below_next hb6 hb
        have hu7 := closeOr_us hown
        clear hb hb6 hown
        go_wp2_with fail
        refine (refClose_any _ us w7 (HV.out.below hb7) HU.out).mono ?_
        rintro e w8 ⟨v8, rfl, hown, hb⟩
        have hb8 := below_next hb7 hb
        have HS := Lib.hid (same_any v7 v8 (L.closeOr us) (L.closeOr us) w8 (hu7.below hb) (closeOr_us hown))
        rw [show (L.closeOr us == L.closeOr us) = true by simp] at HS
        clear hb hb7 hown hu7
        go_wp2_with fail
        refine HS.out.mono ?_
        rintro e w9 ⟨rfl, hb⟩
        have hb9 := below_next hb8 hb
        clear hb hb8 HS
        go_wp2_with fail
        go_ret
        exact ⟨rfl, hb9⟩
      · have d1 : decide ((12 : Int) < (us.length : Int)) = false := by simp; omega
        clear hmid h70 h12
        go_wp2_with fail
        refine (check_any _ us w4 (HV.out.below hb4) HU.out (HT.out.below hb4)).mono ?_
        rintro e w5 ⟨rfl, hb⟩
        have hb5 := below_next hb4 hb
        clear hb hb4
        go_wp2_with fail
        refine (refCheck_any _ us w5 (HV.out.below hb5) HU.out).mono ?_
        rintro e w6 ⟨rfl, hb⟩
        have hb6 := below_next hb5 hb
        clear hb hb5
        generalize L.check us = ck
        have dc : (ck == ck) = true := by simp
        go_wp2_with fail
        refine (close_any _ us w6 (HV.out.below hb6) HU.out).mono ?_
        rintro e w7 ⟨v7, rfl, hown, hb⟩
        have hb7 := below_next hb6 hb
        have hu7 := closeOr_us hown
        clear hb hb6 hown
        go_wp2_with fail
        refine (refClose_any _ us w7 (HV.out.below hb7) HU.out).mono ?_
        rintro e w8 ⟨v8, rfl, hown, hb⟩
        have hb8 := below_next hb7 hb
        have HS := Lib.hid (same_any v7 v8 (L.closeOr us) (L.closeOr us) w8 (hu7.below hb) (closeOr_us hown))
        rw [show (L.closeOr us == L.closeOr us) = true by simp] at HS
        clear hb hb7 hown hu7
        go_wp2_with fail
        refine HS.out.mono ?_
        rintro e w9 ⟨rfl, hb⟩
        have hb9 := below_next hb8 hb
        clear hb hb8 HS
        go_wp2_with fail
        go_ret
        exact ⟨rfl, hb9⟩
end Go.Proofs.YtnfhhhcbgipmcaaDoor
