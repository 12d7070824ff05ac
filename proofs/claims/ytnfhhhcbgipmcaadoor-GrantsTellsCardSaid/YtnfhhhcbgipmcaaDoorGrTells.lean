/- GrantsTells returns true. -/
import Derived.Test.YtnfhhhcbgipmcaaDoorAwFour
import Derived.Test.YtnfhhhcbgipmcaaDoorRefCheck
import Derived.Test.YtnfhhhcbgipmcaaDoorGr5
import Derived.Test.YtnfhhhcbgipmcaaDoorRefSrc
namespace Go.Proofs.YtnfhhhcbgipmcaaDoor
open Go Go.RowKit

set_option maxRecDepth 6000 in
set_option maxHeartbeats 4000000 in
theorem grTells_any (v : Value) (us : List Nat) (vl : Value) (l : List Gr) (s : Nat) (w : World) (hv : Us w v us) (hu : U64s us) (hl : Gs w vl l) (hs : s < 18446744073709551616) (ht : DTab w) :
    Calls Tryd.prog 9 #[v, vl, .int .u64 s] w fun e w' => e = .returned (.bool true) ∧ Below w.heap.size w w' := by
  obtain ⟨ao, cap, rfl, -⟩ := hv.shape
  obtain ⟨aol, capl, rfl, -⟩ := hl.shape
  have hbig := hv.len
  have hbigl := hl.len
  have HA := Lib.hid (aw4_any w ht)
  have HC := Lib.hid (fun (W : World) (hW : Below w.heap.size w W) => refCheck_any _ us W (hv.below hW) hu)
  have HV := Lib.hid hv
  have HU := Lib.hid hu
  have HG := Lib.hid hl
  have HT := Lib.hid ht
  clear hv hu ht hl
  by_cases h12 : 12 < us.length
  · have d0 : decide ((12 : Int) < (us.length : Int)) = true := by simp; omega
    clear h12
    clear HC HV HU HG HT
    go_enter Tryd.func9, Tryd.ntmps9
    go_wp2_with fail
    refine HA.out.mono ?_
    rintro e w1 ⟨rfl, hb1⟩
    go_wp2_with fail
    go_ret
    exact ⟨rfl, hb1⟩
  · have d0 : decide ((12 : Int) < (us.length : Int)) = false := by simp; omega
    by_cases h70 : 70 < l.length
    · have d1 : decide ((70 : Int) < (l.length : Int)) = true := by simp; omega
      clear h12 h70
      clear HC HV HU HG HT
      go_enter Tryd.func9, Tryd.ntmps9
      go_wp2_with fail
      refine HA.out.mono ?_
      rintro e w1 ⟨rfl, hb1⟩
      go_wp2_with fail
      go_ret
      exact ⟨rfl, hb1⟩
    · have d1 : decide ((70 : Int) < (l.length : Int)) = false := by simp; omega
      cases hck : L.check us with
      | false =>
        clear h12 h70 HV HU HG HT
        go_enter Tryd.func9, Tryd.ntmps9
        go_wp2_with fail
        refine HA.out.mono ?_
        rintro e w1 ⟨rfl, hbr⟩
        have st := Lib.hid (HC.out _ hbr)
        rw [hck] at st
        clear hck HC HA
        go_wp2_with fail
        refine st.out.mono ?_
        rintro e w2 ⟨rfl, hx⟩
        replace hbr := below_next hbr hx
        clear hx st
        go_wp2_with fail
        go_ret
        exact ⟨rfl, hbr⟩
      | true =>
        have HLat := Lib.hid (L.check_iff.1 hck)
        have hl70 : l.length ≤ 70 := by omega
        clear h12 h70
        go_enter Tryd.func9, Tryd.ntmps9
        go_wp2_with fail
        refine HA.out.mono ?_
        rintro e w1 ⟨rfl, hbr⟩
        have st := Lib.hid (HC.out _ hbr)
        rw [hck] at st
        clear hck HC HA
        go_wp2_with fail
        refine st.out.mono ?_
        rintro e w2 ⟨rfl, hx⟩
        replace hbr := below_next hbr hx
        clear hx st
        go_wp2_with fail
        go_loopw [8] (fun i wr => ∃ k : Nat, k ≤ l.length ∧ i = .int .i64 k ∧ Below w.heap.size w wr) (fun i _ => l.length - (intOf i).toNat)
        case atStart => exact ⟨0, by omega, rfl, hbr⟩
        case round =>
          clear hbr
          obtain ⟨k, hk, rfl, hbr⟩ := hrel
          by_cases hkl : k + 1 < l.length
          · have hk0 : k < l.length := by omega
            have dk : decide ((k : Int) + 1 < (l.length : Int)) = true := by rw [decide_eq_true_eq]; omega
            have hkI : (k : Int) < (l.length : Int) := by omega
            have hkI1 : (k : Int) + 1 < (l.length : Int) := by omega
            have hkg : (0 : Int) ≤ (k : Int) := by omega
            have hkg1 : (0 : Int) ≤ (k : Int) + 1 := by omega
            have hti : ((k : Int) + 1).toNat = k + 1 := by omega
            have hwr : IntKind.i64.wrap ((k : Int) + 1) = (k : Int) + 1 := by rw [IntKind.wrap_i64]; omega
            obtain ⟨b, off, rfl, -⟩ := Gs.at3 (Three.Ss.below HG.out hbr) hk0
            obtain ⟨vj, hvj, hrj⟩ := run_take (P := Tryd.prog) (t := 44) Tryd.underlying44 infoGr HG.out .i64 k (Nat.le_of_lt hk0)
            rw [GR.cells_take] at hvj
            have HGj : Hid (Gs w vj (l.take k)) := by unfold Hid Gs Three.Ss; rw [List.length_take, Nat.min_eq_left (Nat.le_of_lt hk0)]; exact hvj
            clear hvj
            go_wp2_with fail
            refine wp_region_mix ext_grow [(0, false), (1, false), (2, false), (3, false), (4, false), (5, false), (6, false), (7, false), (8, false), (9, false), (10, false), (11, false), (12, false), (13, false), (14, false), (15, false), (16, false), (17, false), (18, false), (19, false), (20, false), (21, false), (22, false), (23, false), (24, false), (25, false), (26, false), (27, false), (28, false), (29, false), (30, false), (31, false), (32, false), (33, false), (34, false), (35, false), (36, false), (37, false), (38, false), (39, false), (40, false), (41, false), (42, false), (43, false), (44, false), (45, false), (46, false), (47, false), (48, false), (49, false), (50, false), (51, false), (52, false), (53, false), (54, false)] (by kernel_rfl) (by kernel_rfl) ?_
            have hb8 : Below w.heap.size w wr.drew := hbr.drew
            generalize wr.drew = w8 at *
            have hcz : Hid (∀ (x : Later w8) i (_ : i < l.length), x.1.cell? ⟨b, off + i * 3, none⟩ = some (.int .i64 l[i].1) ∧ x.1.cell? ⟨b, off + i * 3 + 1, none⟩ = some (.int .i64 l[i].2.1) ∧ x.1.cell? ⟨b, off + i * 3 + 2, none⟩ = some (.int .i64 l[i].2.2)) := fun x => by
              obtain ⟨b', off', e, h⟩ := Gs.at3 (Three.Ss.below HG.out (below_next hb8 x.2)) hk0
              obtain ⟨rfl, rfl⟩ : b = b' ∧ off = off' := by simpa using e
              exact h
            have hy0 := Lib.hid (fun x => hcz.out x k hk0)
            have hz0 := Lib.hid (fun x => hcz.out x (k + 1) hkl)
            obtain ⟨y, hy⟩ : ∃ y, l[k] = y := ⟨_, rfl⟩
            obtain ⟨z, hz⟩ : ∃ z, l[k + 1] = z := ⟨_, rfl⟩
            rw [hy] at hy0
            rw [hz] at hz0
            clear hcz hy hz
            obtain ⟨y0, y1, y2⟩ := y
            obtain ⟨z0, z1, z2⟩ := z
            have g0 : ∀ x : Later w8, x.1.cell? ⟨b, off + k * 3, none⟩ = some (.int .i64 y0) := fun x => (hy0.out x).1
            have g1 : ∀ x : Later w8, x.1.cell? ⟨b, off + k * 3 + 1, none⟩ = some (.int .i64 y1) := fun x => (hy0.out x).2.1
            have g2 : ∀ x : Later w8, x.1.cell? ⟨b, off + k * 3 + 2, none⟩ = some (.int .i64 y2) := fun x => (hy0.out x).2.2
            have g3 : ∀ x : Later w8, x.1.cell? ⟨b, off + (k + 1) * 3, none⟩ = some (.int .i64 z0) := fun x => (hz0.out x).1
            have g4 : ∀ x : Later w8, x.1.cell? ⟨b, off + (k + 1) * 3 + 1, none⟩ = some (.int .i64 z1) := fun x => (hz0.out x).2.1
            have g5 : ∀ x : Later w8, x.1.cell? ⟨b, off + (k + 1) * 3 + 2, none⟩ = some (.int .i64 z2) := fun x => (hz0.out x).2.2
            have HL1 : Hid (∀ x : Later w8, Calls Tryd.prog 34 #[gv (y0, y1, y2), gv (z0, z1, z2)] x.1 fun e w' => e = .returned (.bool (L.gless (y0, y1, y2) (z0, z1, z2))) ∧ Ext x.1 w') := fun x => gless_any _ _ x.1
            have HL2 : Hid (∀ x : Later w8, Calls Tryd.prog 35 #[gv (y0, y1, y2), gv (z0, z1, z2)] x.1 fun e w' => e = .returned (.bool (L.gless (y0, y1, y2) (z0, z1, z2))) ∧ Ext x.1 w') := fun x => refLess_any _ _ x.1
            have HF1 : Hid (∀ x : Later w8, Calls Tryd.prog 36 #[.slice ao us.length cap, gv (y0, y1, y2)] x.1 fun e w' => e = .returned (.bool (L.fits us (y0, y1, y2))) ∧ Ext x.1 w') := fun x => fits_any _ us _ x.1 (HV.out.below (below_next hb8 x.2)) HU.out
            have HF2 : Hid (∀ x : Later w8, Calls Tryd.prog 37 #[.slice ao us.length cap, gv (y0, y1, y2)] x.1 fun e w' => e = .returned (.bool (L.fits us (y0, y1, y2))) ∧ Ext x.1 w') := fun x => refFits_any _ us _ x.1 (HV.out.below (below_next hb8 x.2)) HU.out
            have HM1 : Hid (∀ x : Later w8, Calls Tryd.prog 38 #[vj, gv (y0, y1, y2)] x.1 fun e w' => e = .returned (.bool ((l.take k).contains (y0, y1, y2))) ∧ Ext x.1 w') := fun x => may_any vj (l.take k) _ x.1 (Three.Ss.below HGj.out (below_next hb8 x.2))
            have HM2 : Hid (∀ x : Later w8, Calls Tryd.prog 39 #[vj, gv (y0, y1, y2)] x.1 fun e w' => e = .returned (.bool ((l.take k).contains (y0, y1, y2))) ∧ Ext x.1 w') := fun x => refMay_any vj (l.take k) _ x.1 (Three.Ss.below HGj.out (below_next hb8 x.2))
            generalize L.gless (y0, y1, y2) (z0, z1, z2) = q1 at *
            generalize L.fits us (y0, y1, y2) = q2 at *
            generalize (l.take k).contains (y0, y1, y2) = q3 at *
            have e1 : (q1 != q1) = false := by simp
            have e2 : (q2 != q2) = false := by simp
            have e3 : (q3 != q3) = false := by simp
            clear hy0 hz0 HGj hbr
            repeat (refine mix_soft rfl (fun K hK => ?_); go_simp; (first | (refine hK _ ?_; clear hK K) | (apply Exists.intro; refine ⟨fun x => ?_, hK _ ?_⟩; (first | (go_at_call 34; with_reducible exact HL1.out x) | (go_at_call 35; with_reducible exact HL2.out x) | (go_at_call 36; with_reducible exact HF1.out x) | (go_at_call 37; with_reducible exact HF2.out x) | (go_at_call 38; with_reducible exact HM1.out x) | (go_at_call 39; with_reducible exact HM2.out x)); clear hK K)))
            refine mix_done fun w9 hb9 => ?_
            have hbz := below_next hb8 hb9
            clear g0 g1 g2 g3 g4 g5 hb8 hrj HL1 HL2 HF1 HF2 HM1 HM2
            go_wp2_with fail
            go_roundw
            case rel => exact ⟨k + 1, by omega, by go_num, hbz⟩
            case measure => simp [intOf]; omega
          · have dk : decide ((k : Int) + 1 < (l.length : Int)) = false := by rw [decide_eq_false_iff_not]; omega
            have st := Lib.hid (gcheck_any _ us _ l wr (HV.out.below hbr) HU.out (Three.Ss.below HG.out hbr))
            have hkw : IntKind.i64.wrap ((k : Int) + 1) = (k : Int) + 1 := by rw [IntKind.wrap_i64]; omega
            go_wp2_with fail
            refine st.out.mono ?_
            rintro e w3 ⟨rfl, hx⟩
            replace hbr := below_next hbr hx
            clear hx st
            have st := Lib.hid (refGcheck_any _ us _ l w3 (HV.out.below hbr) HU.out (Three.Ss.below HG.out hbr))
            obtain ⟨ck, hckq⟩ : ∃ x, L.gcheck us l = x := ⟨_, rfl⟩
            rw [hckq] at st ⊢
            have e1 : (ck == ck) = true := by simp
            clear hckq dk
            go_wp2_with fail
            refine st.out.mono ?_
            rintro e w4 ⟨rfl, hx⟩
            replace hbr := below_next hbr hx
            clear hx st
            have st := Lib.hid (sources_any _ us _ l s w4 (HV.out.below hbr) HU.out (Three.Ss.below HG.out hbr) (by omega) hs HLat.out (HT.out.below hbr))
            go_wp2_with fail
            refine st.out.mono ?_
            rintro e w5 ⟨rfl, hx⟩
            replace hbr := below_next hbr hx
            clear hx st
            have st := Lib.hid (refSources_any _ us _ l s w5 (HV.out.below hbr) HU.out (Three.Ss.below HG.out hbr) hs HLat.out)
            obtain ⟨S, hS⟩ : ∃ x, L.srcs us l s = x := ⟨_, rfl⟩
            rw [hS] at st ⊢
            have e2 : ((S : Int) == (S : Int)) = true := by simp
            clear hS
            go_wp2_with fail
            refine st.out.mono ?_
            rintro e w6 ⟨rfl, hx⟩
            have hfin := Lib.hid (below_next hbr hx)
            clear hx st hbr
            go_wp2_with fail
            go_ret
            exact ⟨rfl, hfin.out⟩
end Go.Proofs.YtnfhhhcbgipmcaaDoor
