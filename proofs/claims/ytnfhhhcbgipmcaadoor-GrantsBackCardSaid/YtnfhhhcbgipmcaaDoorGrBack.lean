/- GrantsBack returns true. -/
import Derived.Test.YtnfhhhcbgipmcaaDoorAwFour
import Derived.Test.YtnfhhhcbgipmcaaDoorGrBackPlain
namespace Go.Proofs.YtnfhhhcbgipmcaaDoor
open Go Go.RowKit

set_option maxRecDepth 4000 in
set_option maxHeartbeats 2000000 in
theorem grBack_any (v : Value) (l : List Gr) (w : World) (hv : Gs w v l) (ht : DTab w) :
    Calls Tryd.prog 13 #[v] w fun e w' => e = .returned (.bool true) ∧ Below w.heap.size w w' := by
  obtain ⟨ao, cap, rfl, -⟩ := hv.shape
  obtain ⟨i0, hi, hz0, hz1, hz2⟩ := info_parts infoU8
  have hbig := hv.len
  have HA := Lib.hid (aw4_any w ht)
  have HV := Lib.hid hv
  clear hv ht
  by_cases h64 : 64 < l.length
  · have d0 : decide ((64 : Int) < (l.length : Int)) = true := by simp; omega
    clear h64
    go_enter Tryd.func13, Tryd.ntmps13
    go_wp2_with fail
    refine HA.out.mono ?_
    rintro e w1 ⟨rfl, hb1⟩
    go_wp2_with fail
    go_ret
    exact ⟨rfl, hb1⟩
  · have d0 : decide ((64 : Int) < (l.length : Int)) = false := by simp; omega
    have hback : Hid ((∀ i (_ : i < l.length), i < l.length → L.byteG l[i]) → L.GBack l) := fun h => L.gback (fun g hg => by
      obtain ⟨i, hi, rfl⟩ := List.getElem_of_mem hg
      exact h i hi hi) (by omega)
    have HS := Lib.hid (fun (u : Value) (W : World) (hW : Below w.heap.size w W) (hu : Gs W u l) => gsame_any u _ l l W hu (Three.Ss.below HV.out hW))
    rw [show (l == l) = true by simp] at HS
    have HPut := Lib.hid (fun (W : World) (hW : Below w.heap.size w W) => gput_any _ l W (Three.Ss.below HV.out hW))
    have hlen64 : l.length ≤ 64 := by omega
    clear h64
    go_enter Tryd.func13, Tryd.ntmps13
    go_wp2_with fail
    refine HA.out.mono ?_
    rintro e w1 ⟨rfl, hb1⟩
    clear HA
    go_wp2_with fail
    go_loopw [4] (fun i wr => ∃ k : Nat, k ≤ l.length ∧ i = .int .i64 k ∧ Hid (∀ i (_ : i < l.length), i < k → L.byteG l[i]) ∧ Below w.heap.size w wr) (fun i _ => l.length - (intOf i).toNat)
    case atStart => exact ⟨0, by omega, rfl, fun i _ hi => absurd hi (Nat.not_lt_zero _), hb1⟩
    case round =>
      clear hb1
      obtain ⟨k, hk, rfl, hall, hbr⟩ := hrel
      by_cases hkl : k < l.length
      · obtain ⟨b, off, rfl, hc⟩ := Gs.at3 (Three.Ss.below HV.out hbr) hkl
        obtain ⟨p0, p1, p2⟩ := hc k hkl
        obtain ⟨y, hy⟩ : ∃ y, l[k] = y := ⟨_, rfl⟩
        have HY := Lib.hid hy
        rw [hy] at p0 p1 p2
        clear hy hc
        obtain ⟨y0, y1, y2⟩ := y
        simp only [] at p0 p1 p2
        have hb2 := Lib.hid (hbr.alloc hbr.size (.cells #[.int .i64 y0, .int .i64 y1, .int .i64 y2] 47))
        clear hback HS HPut
        by_cases n0 : y0 < 0
        · have d0 : decide (y0 < 0) = true := by simp [n0]
          clear n0 HY hall
          go_wp2_with fail
          go_ret
          exact ⟨rfl, hb2.out⟩
        · have d0 : decide (y0 < 0) = false := by simp only [decide_eq_false_iff_not]; exact n0
          by_cases n1 : 255 < y0
          · have d1 : decide (255 < y0) = true := by simp [n1]
            clear n0 n1 HY hall
            go_wp2_with fail
            go_ret
            exact ⟨rfl, hb2.out⟩
          · have d1 : decide (255 < y0) = false := by simp only [decide_eq_false_iff_not]; exact n1
            by_cases n2 : y1 < 0
            · have d2 : decide (y1 < 0) = true := by simp [n2]
              clear n0 n1 n2 HY hall
              go_wp2_with fail
              go_ret
              exact ⟨rfl, hb2.out⟩
            · have d2 : decide (y1 < 0) = false := by simp only [decide_eq_false_iff_not]; exact n2
              by_cases n3 : 255 < y1
              · have d3 : decide (255 < y1) = true := by simp [n3]
                clear n0 n1 n2 n3 HY hall
                go_wp2_with fail
                go_ret
                exact ⟨rfl, hb2.out⟩
              · have d3 : decide (255 < y1) = false := by simp only [decide_eq_false_iff_not]; exact n3
                by_cases n4 : y2 < 0
                · have d4 : decide (y2 < 0) = true := by simp [n4]
                  clear n0 n1 n2 n3 n4 HY hall
                  go_wp2_with fail
                  go_ret
                  exact ⟨rfl, hb2.out⟩
                · have d4 : decide (y2 < 0) = false := by simp only [decide_eq_false_iff_not]; exact n4
                  by_cases n5 : 255 < y2
                  · have d5 : decide (255 < y2) = true := by simp [n5]
                    clear n0 n1 n2 n3 n4 n5 HY hall
                    go_wp2_with fail
                    go_ret
                    exact ⟨rfl, hb2.out⟩
                  · have d5 : decide (255 < y2) = false := by simp only [decide_eq_false_iff_not]; exact n5
                    have hgood : Hid (∀ i (_ : i < l.length), i < k + 1 → L.byteG l[i]) := fun i hi hik => by
                      by_cases e : i = k
                      · subst e; rw [HY.out]; exact ⟨⟨by simp only []; omega, by simp only []; omega⟩, ⟨by simp only []; omega, by simp only []; omega⟩, ⟨by simp only []; omega, by simp only []; omega⟩⟩
                      · exact hall.out i hi (by omega)
                    clear n0 n1 n2 n3 n4 n5 HY hall
                    go_wp2_with fail
                    go_roundw
                    case rel => exact ⟨k + 1, by omega, by go_num, hgood, hb2.out⟩
                    case measure => simp [intOf]; omega
      · obtain rfl : k = l.length := by omega
        have bk := hback.out hall.out
        have hp1 := Lib.hid bk.get
        have hp2 := Lib.hid bk.getE
        have hp3 := Lib.hid bk.short
        have hp4 := Lib.hid bk.more
        have hp5 := Lib.hid bk.len
        have s := Lib.hid (HPut.out _ hbr)
        have hbw := hbr
        clear bk hback hall hkl hk HPut
        go_wp2_with fail
        refine s.out.mono ?_
        rintro e w3 ⟨v3, rfl, hown, hx⟩
        replace hbr := below_next hbr hx
        have HO := Lib.hid hown
        have hwr : w.heap.size ≤ wr.heap.size := hbw.size
        obtain ⟨pl, hpl⟩ : ∃ x, L.gput l = x := ⟨_, rfl⟩
        rw [hpl] at hp1 hp2 hp3 hp4 hp5 HO
        clear hpl s hown
        have HB := Lib.hid (Bs.of_owns HO.out)
        obtain ⟨aob, capb, rfl, -⟩ := HB.out.shape
        have hlen : pl.length ≤ 200 := by have := hp5.out; omega
        have hle : 3 * l.length ≤ pl.length := by have := hp5.out; omega
        have hpos : 0 < pl.length := by have := hp5.out; omega
        obtain ⟨vt, hvt, hrun⟩ := run_btake (P := Tryd.prog) Tryd.underlying33 infoU8 HB.out .i64 (3 * l.length) hle
        have hsub : (pl.length : Int) - 1 = ((3 * l.length : Nat) : Int) := by have := hp5.out; omega
        rw [← hsub] at hrun
        have HVT := Lib.hid hvt
        clear hvt hsub hp5
        have hszw := hx.size
        have hgr := Lib.hid (Below.refl w3.heap.size w3)
        have s := Lib.hid (ggetO_any _ pl w3 HB.out (by omega))
        rw [hp2.out, hp1.out] at s
        clear hp1 hp2 hx
        obtain ⟨N, hN⟩ : ∃ N, pl.length = N := ⟨_, rfl⟩
        have HN := Lib.hid hN
        rw [hN] at hlen hle hrun HO HB s hpos ⊢
        clear hN
        go_wp2_with fail
        refine s.out.mono ?_
        rintro e w4 ⟨v4, rfl, hg4, hx⟩
        replace hbr := below_next hbr hx
        replace HVT := Lib.hid (HVT.out.below hx)
        replace HO := Lib.hid (ownsRow.below HO.out hx)
        replace hszw := Nat.le_trans hszw hx.size
        have HG4 := Lib.hid hg4
        clear hx s hg4 HB hgr
        have s := Lib.hid (gget_any _ _ w4 HVT.out (by rw [List.length_take]; have := HN.out; omega))
        rw [hp3.out] at s
        clear hp3 HVT
        go_wp2_with fail
        refine s.out.mono ?_
        rintro e w5 ⟨v5, rfl, -, hx⟩
        replace hbr := below_next hbr hx
        replace HO := Lib.hid (ownsRow.below HO.out hx)
        replace HG4 := Lib.hid (ownsRow.below HG4.out hx)
        replace hszw := Nat.le_trans hszw hx.size
        clear hx s
        have hszA : wr.heap.size ≤ (w5.alloc (.cells #[.int .u8 0] 5)).heap.size := by simp; omega
        have HO6 := Lib.hid (HO.out.alloc (.cells #[.int .u8 0] 5))
        have HG6 := Lib.hid (HG4.out.alloc (.cells #[.int .u8 0] 5))
        have hbr6 := hbr.alloc hbr.size (.cells #[.int .u8 0] 5)
        clear HO HG4
        go_wp2_with (at_builtin; go_must (refine wpList_append_own (w := w5.alloc (.cells #[.int .u8 0] 5)) rfl _ _ 33 rfl wr.heap.size 5 i0 (.int .u8 0) 1 1 Tryd.underlying33 hi hz0 hz1 hz2 rfl (by decide) _ _ _ rfl HO6.out ⟨w5.heap.size, 0, none⟩ 1 1 [.int .u8 0] rfl rfl (cell_one_new _ _ _) (by simp [Value.oneCell']) (by unfold maxLen; omega) (by omega) hszA ?_))
        intro v7 w7 hown7 hgrow _
        have hbr7 : Below w.heap.size w w7 := hbr6.grown hgrow hbr6.size (fun k hk => by have := ownBlock_ge HO6.out k hk; omega)
        have HG7 := Lib.hid (ownsRow.beside HG6.out HO6.out (by decide) hgrow)
        have HB7 : Hid (Bs w7 v7 (pl ++ [0])) := by
          refine Bs.of_owns (base := wr.heap.size) (e := 5) (n := N + 1) ?_
          rw [← byteCells_append]
          exact hown7
        clear hown7 hgrow HO6 HG6 hbr hbr6 hszA
        have s := Lib.hid (gget_any _ _ w7 HB7.out (by rw [List.length_append, HN.out, List.length_singleton]; omega))
        rw [hp4.out] at s
        clear hp4 HB7
        go_wp2_with fail
        refine s.out.mono ?_
        rintro e w8 ⟨v8, rfl, -, hx⟩
        have hbr8 := below_next hbr7 hx
        have s := Lib.hid (HS.out v4 w8 hbr8 (Three.Ss.below (Three.Ss.of_owns HG7.out) hx))
        clear hx hbr7 HG7
        go_wp2_with fail
        refine s.out.mono ?_
        rintro e w9 ⟨rfl, hx⟩
        have hfin := Lib.hid (below_next hbr8 hx)
        clear hx s hbr8
        go_wp2_with fail
        go_ret
        exact ⟨rfl, hfin.out⟩
end Go.Proofs.YtnfhhhcbgipmcaaDoor
