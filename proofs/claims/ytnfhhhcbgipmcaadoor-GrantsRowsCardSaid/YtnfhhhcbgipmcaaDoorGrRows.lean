/- GrantsRows returns true. -/
import Derived.Test.YtnfhhhcbgipmcaaDoorAwFour
import Derived.Test.YtnfhhhcbgipmcaaDoorRefCheck
import Derived.Test.YtnfhhhcbgipmcaaDoorGrRowsPlain
namespace Go.Proofs.YtnfhhhcbgipmcaaDoor
open Go Go.RowKit

set_option maxRecDepth 4000 in
set_option maxHeartbeats 4000000 in
theorem grRows_any (v : Value) (us : List Nat) (vl : Value) (l : List Gr) (c : Nat) (w : World) (hv : Us w v us) (hu : U64s us) (hl : Gs w vl l) (hc : c < 256) (ht : DTab w) :
    Calls Tryd.prog 12 #[v, vl, .int .u8 c] w fun e w' => e = .returned (.bool true) ∧ Below w.heap.size w w' := by
  obtain ⟨ao, cap, rfl, -⟩ := hv.shape
  obtain ⟨aol, capl, rfl, -⟩ := hl.shape
  have hbig := hv.len
  have hbigl := hl.len
  have HA := Lib.hid (aw4_any w ht)
  have HC := Lib.hid (fun (W : World) (hW : Below w.heap.size w W) => refCheck_any _ us W (hv.below hW) hu)
  have HG := Lib.hid (fun (u : Value) (m : List Gr) (W : World) (hW : Below w.heap.size w W) (hm : Gs W u m) => gcheck_any _ us u m W (hv.below hW) hu hm)
  have HV := Lib.hid hv
  have HU := Lib.hid hu
  have HL := Lib.hid hl
  have HK := Lib.hid hc
  clear hv hu ht hl
  by_cases h12 : 12 < us.length
  · have d0 : decide ((12 : Int) < (us.length : Int)) = true := by simp; omega
    clear h12
    clear HC HG HV HU HL HK
    go_enter Tryd.func12, Tryd.ntmps12
    go_wp2_with fail
    refine HA.out.mono ?_
    rintro e w1 ⟨rfl, hb1⟩
    go_wp2_with fail
    go_ret
    exact ⟨rfl, hb1⟩
  · have d0 : decide ((12 : Int) < (us.length : Int)) = false := by simp; omega
    by_cases h64 : 64 < l.length
    · have d1 : decide ((64 : Int) < (l.length : Int)) = true := by simp; omega
      clear h12 h64
      clear HC HG HV HU HL HK
      go_enter Tryd.func12, Tryd.ntmps12
      go_wp2_with fail
      refine HA.out.mono ?_
      rintro e w1 ⟨rfl, hb1⟩
      go_wp2_with fail
      go_ret
      exact ⟨rfl, hb1⟩
    · have d1 : decide ((64 : Int) < (l.length : Int)) = false := by simp; omega
      cases hck : L.check us with
      | false =>
        clear h12 h64 HG HV HU HL HK
        go_enter Tryd.func12, Tryd.ntmps12
        go_wp2_with fail
        refine HA.out.mono ?_
        rintro e w1 ⟨rfl, hbr⟩
        have s := Lib.hid (HC.out _ hbr)
        rw [hck] at s
        clear hck HC HA
        go_wp2_with fail
        refine s.out.mono ?_
        rintro e w2 ⟨rfl, hx⟩
        replace hbr := below_next hbr hx
        clear hx s
        go_wp2_with fail
        go_ret
        exact ⟨rfl, hbr⟩
      | true =>
        cases hgk : L.gcheck us l with
        | false =>
          clear h12 h64
          go_enter Tryd.func12, Tryd.ntmps12
          go_wp2_with fail
          refine HA.out.mono ?_
          rintro e w1 ⟨rfl, hbr⟩
          have s := Lib.hid (HC.out _ hbr)
          rw [hck] at s
          clear hck HC HA
          go_wp2_with fail
          refine s.out.mono ?_
          rintro e w2 ⟨rfl, hx⟩
          replace hbr := below_next hbr hx
          clear hx s
          have s := Lib.hid (HG.out _ l _ hbr (Three.Ss.below HL.out hbr))
          rw [hgk] at s
          clear hgk HG HV HU HL HK
          go_wp2_with fail
          refine s.out.mono ?_
          rintro e w3 ⟨rfl, hx⟩
          replace hbr := below_next hbr hx
          clear hx s
          go_wp2_with fail
          go_ret
          exact ⟨rfl, hbr⟩
        | true =>
          have HR := Lib.hid (L.gcheck_row hgk).1
          have hl64 : l.length ≤ 64 := by omega
          have HFt := Lib.hid (fun (g : Gr) (W : World) (hW : Below w.heap.size w W) => fits_any _ us g W (HV.out.below hW) HU.out)
          have hkk : (c : Int) % ((l.length : Int) + 1) = ((c % (l.length + 1) : Nat) : Int) := by rw [Int.natCast_emod, Int.natCast_add]; rfl
          have hkl : c % (l.length + 1) ≤ l.length := by have := Nat.mod_lt c (show 0 < l.length + 1 by omega); omega
          have hc0 : (0 : Int) ≤ (c : Int) := by omega
          have hc256 : (c : Int) < 256 := by omega
          obtain ⟨k, hkdef⟩ : ∃ k, c % (l.length + 1) = k := ⟨_, rfl⟩
          rw [hkdef] at hkk hkl
          clear hkdef h12 h64
          obtain ⟨vt, hvt, hrt⟩ := run_take (P := Tryd.prog) (t := 44) Tryd.underlying44 infoGr HL.out .i64 k hkl
          obtain ⟨vd, hvd, hrd⟩ := run_drop (P := Tryd.prog) (t := 44) Tryd.underlying44 infoGr HL.out .i64 k hkl
          rw [GR.cells_take] at hvt
          rw [GR.cells_drop] at hvd
          have HGt : Hid (Gs w vt (l.take k)) := by unfold Hid Gs Three.Ss; rw [List.length_take, Nat.min_eq_left hkl]; exact hvt
          have HGd : Hid (Gs w vd (l.drop k)) := by unfold Hid Gs Three.Ss; rw [List.length_drop]; exact hvd
          have hct : Hid (L.gcheck us (l.take k) = true) := L.row_gcheck (HR.out.take k) (by rw [List.length_take]; omega)
          have hcd : Hid (L.gcheck us (l.drop k) = true) := L.row_gcheck (HR.out.drop k) (by rw [List.length_drop]; omega)
          clear hvt hvd
          go_enter Tryd.func12, Tryd.ntmps12
          go_wp2_with fail
          refine HA.out.mono ?_
          rintro e w1 ⟨rfl, hbr⟩
          have s := Lib.hid (HC.out _ hbr)
          rw [hck] at s
          clear hck HC HA
          go_wp2_with fail
          refine s.out.mono ?_
          rintro e w2 ⟨rfl, hx⟩
          replace hbr := below_next hbr hx
          clear hx s
          have s := Lib.hid (HG.out _ l _ hbr (Three.Ss.below HL.out hbr))
          rw [hgk] at s
          clear hgk
          go_wp2_with fail
          refine s.out.mono ?_
          rintro e w3 ⟨rfl, hx⟩
          replace hbr := below_next hbr hx
          clear hx s
          have s := Lib.hid (HG.out vt (l.take k) _ hbr (Three.Ss.below HGt.out hbr))
          rw [hct.out] at s
          clear hct HGt
          go_wp2_with fail
          refine s.out.mono ?_
          rintro e w4 ⟨rfl, hx⟩
          replace hbr := below_next hbr hx
          clear hx s
          have s := Lib.hid (HG.out vd (l.drop k) _ hbr (Three.Ss.below HGd.out hbr))
          rw [hcd.out] at s
          clear hcd HGd
          go_wp2_with fail
          refine s.out.mono ?_
          rintro e w5 ⟨rfl, hx⟩
          replace hbr := below_next hbr hx
          clear hx s hrt hrd hkk
          go_wp2_with fail
          go_loopw [9, 10] (fun t i wr => ∃ m : Nat, m ≤ l.length ∧ i = .int .i64 ((m : Int) - 1) ∧ Hid (wr.ownsRow w.heap.size 47 3 t (l.length - m) (GR.cells (l.drop m).reverse)) ∧ Below w.heap.size w wr) (fun _ i _ => (intOf i + 1).toNat)
          case atStart =>
            refine ⟨l.length, Nat.le_refl _, rfl, ?_, hbr⟩
            unfold Hid
            rw [List.drop_length, Nat.sub_self]
            exact World.ownsRow_nil _ _ _ _
          case round =>
            clear hbr
            obtain ⟨m, hm, rfl, hr, hbr⟩ := hrel
            by_cases hm0 : 0 < m
            · obtain ⟨j, rfl⟩ : ∃ j, m = j + 1 := ⟨m - 1, by omega⟩
              have hjl : j < l.length := by omega
              rw [show ((j + 1 : Nat) : Int) - 1 = (j : Int) by omega]
              have hj0 : (0 : Int) ≤ (j : Int) := by omega
              have hjI : (j : Int) < (l.length : Int) := by omega
              obtain ⟨b, off, rfl, hc⟩ := Gs.at3 (Three.Ss.below HL.out hbr) hjl
              obtain ⟨p0, p1, p2⟩ := hc j hjl
              have hdr : Hid ((l.drop j).reverse = (l.drop (j + 1)).reverse ++ [l[j]]) := L.drop_reverse hjl
              have hfr : Hid ((l.take j).contains l[j] = false) := HR.out.fresh hjl
              have hmy : Hid (l.contains l[j] = true) := contains_yes hjl rfl
              have hft : Hid (L.fits us l[j] = true) := HR.out.fits j hjl
              obtain ⟨vj, hvj, hrj⟩ := run_take (P := Tryd.prog) (t := 44) Tryd.underlying44 infoGr HL.out .i64 j (Nat.le_of_lt hjl)
              rw [GR.cells_take] at hvj
              have HGj : Hid (Gs w vj (l.take j)) := by unfold Hid Gs Three.Ss; rw [List.length_take, Nat.min_eq_left (Nat.le_of_lt hjl)]; exact hvj
              obtain ⟨y, hy⟩ : ∃ y, l[j] = y := ⟨_, rfl⟩
              have HY := Lib.hid hy
              rw [hy] at p0 p1 p2 hdr hfr hmy hft
              clear hy hc hvj
              obtain ⟨y0, y1, y2⟩ := y
              simp only [] at p0 p1 p2
              have HO := Lib.hid (hr.out.alloc (.cells #[.int .i64 y0, .int .i64 y1, .int .i64 y2] 47))
              have HS : Hid (Sl (wr.alloc (.cells #[.int .i64 y0, .int .i64 y1, .int .i64 y2] 47)) 3 1 (.slice (some ⟨wr.heap.size, 0, none⟩) 1 1) (GR.cells [(y0, y1, y2)])) := Sl.lit wr 47 3 1 #[.int .i64 y0, .int .i64 y1, .int .i64 y2] (0, 0) rfl (by decide)
              have hb6 := hbr.alloc hbr.size (.cells #[.int .i64 y0, .int .i64 y1, .int .i64 y2] 47)
              clear hr
              go_wp2_with (at_builtin; go_must (refine wpList_append_sl rfl _ _ 44 rfl w.heap.size 47 _ 3 24 Tryd.underlying44 infoGr rfl (by decide) _ _ _ rfl HO.out _ 1 (GR.cells [(y0, y1, y2)]) rfl HS.out (gr_oneCell _) (by unfold maxLen; omega) (by omega) hb6.size ?_))
              intro v7 w7 hown7 hgrow _
              have hr7 : Hid (w7.ownsRow w.heap.size 47 3 v7 (l.length - j) (GR.cells (l.drop j).reverse)) := by
                unfold Hid; rw [hdr.out, GR.cells_append, show l.length - j = l.length - (j + 1) + 1 by omega]; exact hown7
              have hb7 : Below w.heap.size w w7 := hb6.grown hgrow hb6.size (ownBlock_ge HO.out)
              clear hown7 hgrow HO HS hb6 hdr p0 p1 p2
              go_wp2_with fail
              refine wp_region_mix ext_grow [(0, false), (1, false), (2, false), (3, false), (4, false), (5, false), (6, false), (7, false), (8, false), (9, false), (10, false), (11, false), (12, false), (13, false), (14, false), (15, false), (16, false), (17, false), (18, false), (19, false), (20, false), (21, false), (22, false), (23, false), (24, false), (25, false)] (by kernel_rfl) (by kernel_rfl) ?_
              have hb8 : Below w.heap.size w w7.drew := hb7.drew
              have hr8 : Hid (w7.drew.ownsRow w.heap.size 47 3 v7 (l.length - j) (GR.cells (l.drop j).reverse)) := hr7.out
              generalize w7.drew = w8 at *
              clear hr7 hb7
              have hcz : Hid (∀ (x : Later w8), x.1.cell? ⟨b, off + j * 3, none⟩ = some (.int .i64 l[j].1) ∧ x.1.cell? ⟨b, off + j * 3 + 1, none⟩ = some (.int .i64 l[j].2.1) ∧ x.1.cell? ⟨b, off + j * 3 + 2, none⟩ = some (.int .i64 l[j].2.2)) := fun x => by
                obtain ⟨b', off', e, h⟩ := Gs.at3 (Three.Ss.below HL.out (below_next hb8 x.2)) hjl
                obtain ⟨rfl, rfl⟩ : b = b' ∧ off = off' := by simpa using e
                exact h j hjl
              rw [HY.out] at hcz
              have g0 : ∀ x : Later w8, x.1.cell? ⟨b, off + j * 3, none⟩ = some (.int .i64 y0) := fun x => (hcz.out x).1
              have g1 : ∀ x : Later w8, x.1.cell? ⟨b, off + j * 3 + 1, none⟩ = some (.int .i64 y1) := fun x => (hcz.out x).2.1
              have g2 : ∀ x : Later w8, x.1.cell? ⟨b, off + j * 3 + 2, none⟩ = some (.int .i64 y2) := fun x => (hcz.out x).2.2
              have HFx : Hid (∀ x : Later w8, Calls Tryd.prog 36 #[.slice ao us.length cap, gv (y0, y1, y2)] x.1 fun e w' => e = .returned (.bool true) ∧ Ext x.1 w') := fun x => by
                have := HFt.out (y0, y1, y2) x.1 (below_next hb8 x.2)
                rw [hft.out] at this
                exact this
              have HM1 : Hid (∀ x : Later w8, Calls Tryd.prog 38 #[.slice (some ⟨b, off, none⟩) l.length capl, gv (y0, y1, y2)] x.1 fun e w' => e = .returned (.bool true) ∧ Ext x.1 w') := fun x => by
                have := may_any _ l (y0, y1, y2) x.1 (Three.Ss.below HL.out (below_next hb8 x.2))
                rw [hmy.out] at this
                exact this
              have HM2 : Hid (∀ x : Later w8, Calls Tryd.prog 38 #[vj, gv (y0, y1, y2)] x.1 fun e w' => e = .returned (.bool false) ∧ Ext x.1 w') := fun x => by
                have := may_any vj (l.take j) (y0, y1, y2) x.1 (Three.Ss.below HGj.out (below_next hb8 x.2))
                rw [hfr.out] at this
                exact this
              clear hcz HY hfr hmy hft HGj
              repeat (refine mix_soft rfl (fun K hK => ?_); go_simp; (first | (refine hK _ ?_; clear hK K) | (apply Exists.intro; refine ⟨fun x => ?_, hK _ ?_⟩; (first | (go_at_call 36; with_reducible exact HFx.out x) | (go_at_call 38; (first | with_reducible exact HM1.out x | with_reducible exact HM2.out x))); clear hK K)))
              refine mix_done fun w9 hb9 => ?_
              have hbz := below_next hb8 hb9
              have hrz := Lib.hid (ownsRow.below hr8.out hb9)
              clear g0 g1 g2 hb8 hr8 hrj
              go_wp2_with fail
              go_roundw
              case rel => exact ⟨j, by omega, rfl, hrz, hbz⟩
              case measure => simp [intOf]
            · obtain rfl : m = 0 := by omega
              rw [show ((0 : Nat) : Int) - 1 = -1 from rfl]
              have HBack : Hid (Gs wr u9 l.reverse) := Three.Ss.of_owns (n := l.length) hr.out
              clear hr hm hm0
              by_cases hn0 : 0 < l.length
              · have dn : decide ((0 : Int) < (l.length : Int)) = true := by rw [decide_eq_true_eq]; omega
                have hlast : l.length - 1 < l.length := by omega
                have hti : ((l.length : Int) - 1).toNat = l.length - 1 := by omega
                have hge : (0 : Int) ≤ (l.length : Int) - 1 := by omega
                have hlt : (l.length : Int) - 1 < (l.length : Int) := by omega
                have HO := Lib.hid (World.ownsRow_nil wr wr.heap.size 47 3)
                have HSL : Hid (Sl wr 3 l.length (.slice aol l.length capl) (GR.cells l)) := Three.Ss.below HL.out hbr
                go_wp2_with (at_builtin; go_must (refine wpList_append_sl rfl _ _ 44 rfl wr.heap.size 47 _ 3 24 Tryd.underlying44 infoGr rfl (by decide) _ _ _ rfl HO.out _ l.length (GR.cells l) rfl HSL.out (gr_oneCell _) (by unfold maxLen; omega) (by omega) (Nat.le_refl _) ?_))
                intro v6 w6 hown6 hgrow _
                have hb6 : Below wr.heap.size wr w6 := (Below.refl _ wr).grown hgrow (Nat.le_refl _) (ownBlock_ge HO.out)
                have HO6 : Hid (w6.ownsRow wr.heap.size 47 3 v6 l.length (GR.cells l)) := by
                  unfold Hid
                  simpa using hown6
                clear hown6 hgrow HO HSL
                have hbr6 := below_next hbr hb6
                obtain ⟨b, off, rfl, hc⟩ := Gs.at3 (Three.Ss.below HL.out hbr6) hlast
                obtain ⟨p0, p1, p2⟩ := hc (l.length - 1) hlast
                have htw : Hid (L.gcheck us (l ++ [l[l.length - 1]]) = false) := L.twice_no (m := l.length - 1) (by omega) rfl
                obtain ⟨y, hy⟩ : ∃ y, l[l.length - 1] = y := ⟨_, rfl⟩
                rw [hy] at p0 p1 p2 htw
                clear hy hc
                obtain ⟨y0, y1, y2⟩ := y
                simp only [] at p0 p1 p2
                have HO7 := Lib.hid (HO6.out.alloc (.cells #[.int .i64 y0, .int .i64 y1, .int .i64 y2] 47))
                have HS7 : Hid (Sl (w6.alloc (.cells #[.int .i64 y0, .int .i64 y1, .int .i64 y2] 47)) 3 1 (.slice (some ⟨w6.heap.size, 0, none⟩) 1 1) (GR.cells [(y0, y1, y2)])) := Sl.lit w6 47 3 1 #[.int .i64 y0, .int .i64 y1, .int .i64 y2] (0, 0) rfl (by decide)
                have hb7 : Below wr.heap.size wr (w6.alloc (.cells #[.int .i64 y0, .int .i64 y1, .int .i64 y2] 47)) := hb6.alloc hb6.size _
                go_wp2_with (at_builtin; go_must (refine wpList_append_sl rfl _ _ 44 rfl wr.heap.size 47 _ 3 24 Tryd.underlying44 infoGr rfl (by decide) _ _ _ rfl HO7.out _ 1 (GR.cells [(y0, y1, y2)]) rfl HS7.out (gr_oneCell _) (by unfold maxLen; omega) (by omega) hb7.size ?_))
                intro v8 w8 hown8 hgrow _
                have hbk0 : Below wr.heap.size wr w8 := hb7.grown hgrow hb7.size (ownBlock_ge HO7.out)
                have HG8 : Hid (Gs w8 v8 (l ++ [(y0, y1, y2)])) := by
                  refine Three.Ss.of_owns (base := wr.heap.size) (e := 47) (n := l.length + 1) ?_
                  rw [GR.cells_append]
                  exact hown8
                clear hown8 hgrow HO7 HS7 hb7 HO6 hb6 hbr6 p0 p1 p2
                have hbr8 := below_next hbr hbk0
                have s := Lib.hid (HG.out v8 _ w8 hbr8 HG8.out)
                rw [htw.out] at s
                clear htw HG8
                go_wp2_with fail
                refine s.out.mono ?_
                rintro e w9 ⟨rfl, hx⟩
                have hbr9 := below_next hbr8 hx
                have hbk : Below wr.heap.size wr w9 := below_next hbk0 hx
                clear hx s hbr8 hbk0
                by_cases h2 : l.length < 2
                · have d2 : decide ((l.length : Int) < 2) = true := by rw [decide_eq_true_eq]; omega
                  go_wp2_with fail
                  go_ret
                  exact ⟨rfl, hbr9⟩
                · have d2 : decide ((l.length : Int) < 2) = false := by rw [decide_eq_false_iff_not]; omega
                  have hbr := hbr9
                  have s := Lib.hid (HG.out u9 l.reverse _ hbr (Three.Ss.below HBack.out hbk))
                  rw [L.back_no HR.out (by omega)] at s
                  go_wp2_with fail
                  refine s.out.mono ?_
                  rintro e wz ⟨rfl, hx⟩
                  have hfin := Lib.hid (below_next hbr hx)
                  clear hx s
                  go_wp2_with fail
                  go_ret
                  exact ⟨rfl, hfin.out⟩
              · have dn : decide ((0 : Int) < (l.length : Int)) = false := by rw [decide_eq_false_iff_not]; omega
                have d2 : decide ((l.length : Int) < 2) = true := by rw [decide_eq_true_eq]; omega
                go_wp2_with fail
                go_ret
                exact ⟨rfl, hbr⟩
end Go.Proofs.YtnfhhhcbgipmcaaDoor
