/- LatticeBytes returns true. -/
import Derived.Test.YtnfhhhcbgipmcaaDoorAwThree
import Derived.Test.YtnfhhhcbgipmcaaDoorLatRefGet
namespace Go.Proofs.YtnfhhhcbgipmcaaDoor
open Go Go.RowKit

set_option maxRecDepth 4000 in
set_option maxHeartbeats 1000000 in
theorem latBytes_any (v : Value) (us : List Nat) (vb : Value) (l : List UInt8) (w : World) (hv : Us w v us) (hu : U64s us) (hvb : Bs w vb l) (ht : DTab w) :
    Calls Tryd.prog 7 #[v, vb] w fun e w' => e = .returned (.bool true) ∧ Below w.heap.size w w' := by
  obtain ⟨ao, cap, rfl, -⟩ := hv.shape
  obtain ⟨aob, capb, rfl, -⟩ := hvb.shape
  have hbig := hv.len
  have hbigb : l.length ≤ 9223372036854775807 := by
    obtain ⟨_, ao', cap', _, h1, h2, _⟩ := hvb
    unfold maxLen at h2
    omega
  have HA := Lib.hid (aw3_any w ht)
  have HV := Lib.hid hv
  have HB := Lib.hid hvb
  have HU := Lib.hid hu
  have HT := Lib.hid ht
  clear hv hu ht hvb
  by_cases h12 : 12 < us.length
  · have d0 : decide ((12 : Int) < (us.length : Int)) = true := by simp; omega
    clear h12
    go_enter Tryd.func7, Tryd.ntmps7
    go_wp2_with fail
    refine HA.out.mono ?_
    rintro e w1 ⟨rfl, hb1⟩
    go_wp2_with fail
    go_ret
    exact ⟨rfl, hb1⟩
  · have d0 : decide ((12 : Int) < (us.length : Int)) = false := by simp; omega
    clear h12
    by_cases h200 : 200 < l.length
    · have d1 : decide ((200 : Int) < (l.length : Int)) = true := by simp; omega
      clear h200
      go_enter Tryd.func7, Tryd.ntmps7
      go_wp2_with fail
      refine HA.out.mono ?_
      rintro e w1 ⟨rfl, hb1⟩
      go_wp2_with fail
      go_ret
      exact ⟨rfl, hb1⟩
    · have d1 : decide ((200 : Int) < (l.length : Int)) = false := by simp; omega
      have hl : l.length ≤ 100000 := by omega
      have HG := Lib.hid (fun (W : World) (hW : Below w.heap.size w W) => get_any _ l W (HB.out.below hW) hl (HT.out.below hW))
      have HGR := Lib.hid (fun (W : World) => refGet_any l W)
      clear h200 hl
      go_enter Tryd.func7, Tryd.ntmps7
      go_wp2_with fail
      refine HA.out.mono ?_
      rintro e w1 ⟨rfl, hb1⟩
      clear HA
      go_wp2_with fail
      refine (put_any _ us w1 (HV.out.below hb1) HU.out (HT.out.below hb1)).mono ?_
      rintro e w2 ⟨v2, rfl, hown, hb⟩
      have hb2 := below_next hb1 hb
      have HB2 := Lib.hid (Bs.of_owns hown)
      clear hb hb1 hown
      go_wp2_with fail
      refine (refPut_any _ us w2 (HV.out.below hb2) HU.out).mono ?_
      rintro e w3 ⟨rfl, hb⟩
      have hb3 := below_next hb2 hb
      replace HB2 := Lib.hid (HB2.out.below hb)
      clear hb hb2
      obtain ⟨pe, hpe⟩ : ∃ x, L.putE us = x := ⟨_, rfl⟩
      obtain ⟨pl, hpl⟩ : ∃ x, L.put us = x := ⟨_, rfl⟩
      rw [hpl] at HB2
      rw [hpe, hpl]
      clear hpe hpl
      obtain ⟨s, hs⟩ : ∃ x, str pl = x := ⟨_, rfl⟩
      rw [hs]
      have dpe : (pe == pe) = true := by simp
      go_wp2_with fail
      refine (HG.out _ hb3).mono ?_
      rintro e w4 ⟨v4, rfl, hu4, hb⟩
      have hb4 := below_next hb3 hb
      replace HB2 := Lib.hid (HB2.out.below hb)
      clear hb hb3
      have hconv := run_str Tryd.underlying33 Tryd.underlying5 Tryd.underlying9 (HB.out.below hb4)
      go_wp2_with fail
      refine (HGR.out _).mono ?_
      rintro e w5 ⟨v5, rfl, hu5, hb⟩
      have hb5 := below_next hb4 hb
      replace HB2 := Lib.hid (HB2.out.below hb)
      have HS := Lib.hid (same_any v4 v5 (L.get l) (L.get l) w5 (hu4.below hb) hu5)
      rw [show (L.get l == L.get l) = true by simp] at HS
      clear hb hb4 hconv hu4 hu5
      obtain ⟨ge, hge⟩ : ∃ x, L.getE l = x := ⟨_, rfl⟩
      rw [hge]
      clear hge
      have dge : (ge == ge) = true := by simp
      have hconv := run_str Tryd.underlying33 Tryd.underlying5 Tryd.underlying9 HB2.out
      rw [hs] at hconv
      clear HB2 hs
      go_wp2_with fail
      refine HS.out.mono ?_
      rintro e w6 ⟨rfl, hb⟩
      have hb6 := below_next hb5 hb
      clear hb hb5 hconv
      go_wp2_with fail
      go_ret
      exact ⟨rfl, hb6⟩
end Go.Proofs.YtnfhhhcbgipmcaaDoor
