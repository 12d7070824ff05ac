/- MergeTurns returns true. -/
import Derived.Test.YtgipmbphbcnhcaaRwBack
namespace Go.Proofs.Ytgipmbphbcnhcaa
open Go Go.RowKit

set_option maxRecDepth 8000 in
set_option maxHeartbeats 16000000 in
theorem mturns_any (v : Value) (rows : List (List Rw)) (w : World) (h : Vs w v rows) (hl : rows.length + rows.flatten.length ≤ 4611686018427387904) :
    Calls Try.prog 5 #[v] w fun e w' => e = .returned (.bool true) ∧ Below w.heap.size w w' := by
  have HA := Lib.hid (awake_any w)
  have HS := Lib.hid (fun W (hW : Below w.heap.size w W) => small_any v rows W (h.below hW) hl)
  have HV := Lib.hid h
  clear h hl
  obtain ⟨ao, cap, rfl, -⟩ := HV.out.shape
  go_enter Try.func5, Try.ntmps5
  go_wp2_with fail
  refine HA.out.mono ?_
  rintro e w1 ⟨rfl, hb1⟩
  have s := Lib.hid (HS.out w1 hb1)
  clear HA HS
  go_wp2_with fail
  refine s.out.mono ?_
  rintro e w2 ⟨b, rfl, hbt, hx⟩
  have hb2 := below_next hb1 hx
  clear hb1 hx s
  cases b with
  | false =>
    clear HV hbt
    go_wp2_with fail
    go_ret
    exact ⟨rfl, hb2⟩
  | true =>
    have h120 := hbt rfl
    have s := Lib.hid (union_any (.slice ao rows.length cap) rows 1000 w2 (HV.out.below hb2) (by omega))
    clear hbt
    go_wp2_with fail
    refine s.out.mono ?_
    rintro e w3 ⟨v3, C, rfl, hC, hr, hx⟩
    have hb3 := Lib.hid (below_next hb2 hx)
    have HC := Lib.hid hC
    have hCl := hC.len
    rw [S.upto_all (by omega)] at hr
    have HR := Lib.hid hr
    obtain ⟨p9, cap9, rfl, -⟩ := hr.shape
    obtain ⟨c, hc⟩ : ∃ c, C.length = c := ⟨_, rfl⟩
    have HCc := Lib.hid hc
    obtain ⟨n, hn⟩ : ∃ n, rows.length = n := ⟨_, rfl⟩
    have HN := Lib.hid hn
    rw [hc] at hCl HR ⊢
    have HT := Lib.hid hCl.symm
    rw [hn] at HV h120 ⊢
    have hn120 : n ≤ 120 := by omega
    have hc120 : c ≤ 120 := by omega
    clear hC hr hx s hCl hn hb2 hc h120
    go_wp2_with fail
    go_loopw [6] (fun u wr => ∃ i : Nat, i ≤ c + 1 ∧ u = .int .i64 ((i : Int) + 1) ∧ Hid (∀ q, q < i → ∀ (h : q + 1 < C.length), S.rlt C[q] C[q + 1] = true) ∧ Hid (Rs wr (.slice p9 c cap9) C) ∧ Hid (Below w.heap.size w wr)) (fun u _ => c + 2 - (intOf u).toNat)
    case atStart => exact ⟨0, by omega, by simp, (fun q hq => by omega), HR, hb3⟩
    case round =>
      clear HR hb3
      obtain ⟨q, hi, rfl, HST, HR, hbr⟩ := hrel
      obtain ⟨i, hqi⟩ : ∃ i, q + 1 = i := ⟨_, rfl⟩
      have hii : ((q : Int) + 1) = (i : Int) := by omega
      rw [hii]
      clear hii
      by_cases hic : i < c
      · have hic' : (i : Int) < (c : Int) := by omega
        have hqc' : (q : Int) < (c : Int) := by omega
        have hi0 : (0 : Int) ≤ (i : Int) := by omega
        have hq0 : (0 : Int) ≤ (q : Int) := by omega
        have i7 : IntKind.i64.wrap ((i : Int) - 1) = (q : Int) := by rw [IntKind.wrap_i64] <;> omega
        obtain ⟨b9, o9, rfl, -⟩ := HR.out.at (k := i) (by rw [HCc.out]; exact hic)
        have HQ : Hid (q < C.length) := by unfold Hid; rw [HCc.out]; omega
        have HI : Hid (i < C.length) := by unfold Hid; rw [HCc.out]; omega
        have HS2 : Hid (S.rlt (C[q]'HQ.out) (C[i]'HI.out) = true → ∀ r, r < q + 1 → ∀ (h : r + 1 < C.length), S.rlt C[r] C[r + 1] = true) := fun h r hr h' => by
          by_cases e : r = q
          · subst e
            subst hqi
            exact h
          · exact HST.out r (by omega) h'
        have LC := Lib.hid (fun W => rlt_any (C[q]'HQ.out) (C[i]'HI.out) W)
        obtain ⟨x, hx⟩ : ∃ x, C[q]'HQ.out = x := ⟨_, rfl⟩
        obtain ⟨y, hy⟩ : ∃ y, C[i]'HI.out = y := ⟨_, rfl⟩
        rw [hx, hy] at HS2 LC
        have HX := Lib.hid hx
        have HY := Lib.hid hy
        clear hx hy
        obtain ⟨x0, x1, x2⟩ := x
        obtain ⟨y0, y1, y2⟩ := y
        go_wp2_with fail
        refine wp_region_mix ext_grow [(0, false), (1, false), (2, false), (3, false), (4, false), (5, false), (6, false), (7, false), (8, false), (9, false), (10, false)] (by kernel_rfl) (by kernel_rfl) ?_
        have HRd : Hid (Rs wr.drew (.slice (some ⟨b9, o9, none⟩) c cap9) C) := HR.out
        have hbd : Hid (Below w.heap.size w wr.drew) := hbr.out.drew
        clear HR hbr
        generalize wr.drew = wd at *
        have G0 : Hid (∀ x : Later wd, Rs x.1 (.slice (some ⟨b9, o9, none⟩) c cap9) C) := fun x => Three.Ss.below HRd.out x.2
        have p0 : ∀ x : Later wd, x.1.cell? ⟨b9, o9 + q * 3, none⟩ = some (.string (str x0)) := fun x => by have := ((G0.out x).cells HQ.out).1; rw [HX.out] at this; exact this
        have p1 : ∀ x : Later wd, x.1.cell? ⟨b9, o9 + q * 3 + 1, none⟩ = some (.int .i64 x1) := fun x => by have := ((G0.out x).cells HQ.out).2.1; rw [HX.out] at this; exact this
        have p2 : ∀ x : Later wd, x.1.cell? ⟨b9, o9 + q * 3 + 2, none⟩ = some (.string (str x2)) := fun x => by have := ((G0.out x).cells HQ.out).2.2; rw [HX.out] at this; exact this
        have q0 : ∀ x : Later wd, x.1.cell? ⟨b9, o9 + i * 3, none⟩ = some (.string (str y0)) := fun x => by have := ((G0.out x).cells HI.out).1; rw [HY.out] at this; exact this
        have q1 : ∀ x : Later wd, x.1.cell? ⟨b9, o9 + i * 3 + 1, none⟩ = some (.int .i64 y1) := fun x => by have := ((G0.out x).cells HI.out).2.1; rw [HY.out] at this; exact this
        have q2 : ∀ x : Later wd, x.1.cell? ⟨b9, o9 + i * 3 + 2, none⟩ = some (.string (str y2)) := fun x => by have := ((G0.out x).cells HI.out).2.2; rw [HY.out] at this; exact this
        cases hlt : S.rlt (x0, x1, x2) (y0, y1, y2) with
        | true =>
          have HS3 := Lib.hid (HS2.out hlt)
          rw [hlt] at LC
          have LC : Hid (∀ W, Calls Try.prog 9 #[.agg #[.string (str x0), .int .i64 x1, .string (str x2)], .agg #[.string (str y0), .int .i64 y1, .string (str y2)]] W fun e w' => e = .returned (.bool true) ∧ Ext W w') := LC
          clear hlt HS2 HST
          repeat (refine mix_soft rfl (fun K hK => ?_); go_simp; (first | (refine hK _ ?_; clear hK K) | (apply Exists.intro; refine ⟨fun x => ?_, hK _ ?_⟩; (first | (go_at_call 9; with_reducible exact LC.out _)); clear hK K)))
          clear p0 p1 p2 q0 q1 q2 LC G0
          refine mix_done fun we hx => ?_
          have HRe := Lib.hid (Three.Ss.below HRd.out hx)
          have hbe := Lib.hid (below_next hbd.out hx)
          clear hx HRd hbd
          go_wp2_with fail
          go_roundw
          case rel => exact ⟨q + 1, by omega, by subst hqi; go_num, HS3, HRe, hbe⟩
          case measure => simp [intOf]; omega
        | false =>
          rw [hlt] at LC
          have LC : Hid (∀ W, Calls Try.prog 9 #[.agg #[.string (str x0), .int .i64 x1, .string (str x2)], .agg #[.string (str y0), .int .i64 y1, .string (str y2)]] W fun e w' => e = .returned (.bool false) ∧ Ext W w') := LC
          clear hlt HS2 HST
          repeat (refine mix_soft rfl (fun K hK => ?_); go_simp; (first | (refine hK _ ?_; clear hK K) | (apply Exists.intro; refine ⟨fun x => ?_, hK _ ?_⟩; (first | (go_at_call 9; with_reducible exact LC.out _)); clear hK K)))
          clear p0 p1 p2 q0 q1 q2 LC G0
          refine mix_done fun we hx => ?_
          have hbe := Lib.hid (below_next hbd.out hx)
          clear hx HRd hbd
          go_wp2_with fail
          go_ret
          exact ⟨rfl, hbe.out⟩
      · have hic' : ¬ ((i : Int) < (c : Int)) := by omega
        have HSC : Hid (S.Strict C) := S.strict_of fun r hr => HST.out r (by rw [HCc.out] at hr; omega) hr
        clear HST hic hi hqi
        have f0 : IntKind.i64.wrap ((n : Int) - 1) = (n : Int) - 1 := by rw [IntKind.wrap_i64] <;> omega
        obtain ⟨B, hB⟩ : ∃ B, wr.heap.size = B := ⟨_, rfl⟩
        have HB := Lib.hid hB
        have hbs : Hid (Below B wr wr) := Below.refl _ _
        have HVB : Hid (Vs wr (.slice ao n cap) rows) := HV.out.below hbr.out
        have HRB := Lib.hid HR.out
        obtain ⟨wS, hwS⟩ : ∃ wS, wr = wS := ⟨_, rfl⟩
        rw [hwS] at HRB HVB HB
        have hbS : Hid (Below B wS wr) := by rw [← hwS]; exact hbs.out
        have hbwS : Hid (Below w.heap.size w wS) := by rw [← hwS]; exact hbr.out
        clear hwS hB hbs HR hbr HV
        go_wp2_with fail
        go_loopw [7, 8] (fun t u wr => ∃ (m : Nat) (us : List Value), m ≤ n ∧ u = .int .i64 ((m : Int) - 1) ∧ Hid (Bk wr B t us (S.backs (rows.drop m))) ∧ Hid (Below B wS wr)) (fun _ u _ => (intOf u + 1).toNat)
        case atStart =>
          refine ⟨n, [], by omega, rfl, ?_, hbS⟩
          rw [List.drop_of_length_le (by rw [HN.out]; exact Nat.le_refl _)]
          exact Bk.nil _ _
        case round =>
          clear hbS f0
          obtain ⟨m, us, hm, rfl, HK, hbr⟩ := hrel
          by_cases hm0 : 0 < m
          · obtain ⟨j, rfl⟩ : ∃ j, m = j + 1 := ⟨m - 1, by omega⟩
            have hjn : j < n := by omega
            rw [show ((j + 1 : Nat) : Int) - 1 = (j : Int) by omega]
            have hj0 : (0 : Int) ≤ (j : Int) := by omega
            have hjI : (j : Int) < (n : Int) := by omega
            obtain ⟨b, off, z, rfl, hz, hc⟩ := HVB.out.at (j := j) (by rw [HN.out]; exact hjn)
            have HBS : Hid (S.backs (rows.drop j) = S.backs (rows.drop (j + 1)) ++ [(rows[j]'(by rw [HN.out]; exact hjn)).reverse]) := S.backs_step _
            have hfl : (rows[j]'(by rw [HN.out]; exact hjn)).length ≤ rows.flatten.length := S.row_len _
            rw [HT.out] at hfl
            obtain ⟨l, hl⟩ : ∃ l, rows[j]'(by rw [HN.out]; exact hjn) = l := ⟨_, rfl⟩
            rw [hl] at hz HBS hfl
            obtain ⟨pz, cz, rfl, -⟩ := hz.shape
            obtain ⟨m', hm'⟩ : ∃ m', l.length = m' := ⟨_, rfl⟩
            rw [hm'] at hz hc hfl
            have HM := Lib.hid hm'
            have HZ := Lib.hid hz
            have HCell := Lib.hid hc
            have hcell := hc wr (by rw [HB.out]; exact hbr.out)
            have f1 : IntKind.i64.wrap ((m' : Int) - 1) = (m' : Int) - 1 := by rw [IntKind.wrap_i64] <;> omega
            obtain ⟨G, hG⟩ : ∃ G, wr.heap.size = G := ⟨_, rfl⟩
            have hBG : B ≤ G := by rw [← hG]; have := hbr.out.size; rw [HB.out] at this; exact this
            obtain ⟨wG, hwG⟩ : ∃ wG, wr = wG := ⟨_, rfl⟩
            have hbG : Hid (Below G wG wr) := by rw [← hwG]; exact Below.refl _ _
            have hbr2 : Hid (Below B wS wG) := by rw [← hwG]; exact hbr.out
            rw [hwG] at HK hG
            have HG := Lib.hid hG
            clear hl hm' hz hc hwG hG hbr
            go_wp2_with fail
            clear hcell
            go_loopw [9, 10] (fun t u wr => ∃ k : Nat, k ≤ m' ∧ u = .int .i64 ((k : Int) - 1) ∧ Hid (wr.ownsRow G 29 3 t (m' - k) (RW.cells (l.drop k).reverse)) ∧ Hid (Below G wG wr)) (fun _ u _ => (intOf u + 1).toNat)
            case atStart =>
              refine ⟨m', Nat.le_refl _, rfl, ?_, hbG⟩
              rw [List.drop_of_length_le (by rw [HM.out]; exact Nat.le_refl _), Nat.sub_self]
              exact World.ownsRow_nil _ _ _ _
            case round =>
              clear hbG f1
              obtain ⟨k, hk, rfl, HO, hbr⟩ := hrel
              have hbx : Hid (Below B wS wr) := hbr2.out.trans (hbr.out.mono hBG)
              have hcell := HCell.out wr (by rw [HB.out]; exact hbx.out)
              have hGr : G ≤ wr.heap.size := by have := hbr.out.size; rw [HG.out] at this; exact this
              by_cases hk0 : 0 < k
              · obtain ⟨i2, rfl⟩ : ∃ i2, k = i2 + 1 := ⟨k - 1, by omega⟩
                have hil : i2 < m' := by omega
                rw [show ((i2 + 1 : Nat) : Int) - 1 = (i2 : Int) by omega]
                have hi0 : (0 : Int) ≤ (i2 : Int) := by omega
                have hiI : (i2 : Int) < (m' : Int) := by omega
                obtain ⟨b5, o5, rfl, hlc⟩ := HZ.out.at (k := i2) (by rw [HM.out]; exact hil)
                obtain ⟨q0, q1, q2⟩ := hlc wr (by rw [HB.out]; exact hbx.out)
                have HRV : Hid ((l.drop i2).reverse = (l.drop (i2 + 1)).reverse ++ [l[i2]'(by rw [HM.out]; exact hil)]) := S.rev_step _
                obtain ⟨y, hy⟩ : ∃ y, l[i2]'(by rw [HM.out]; exact hil) = y := ⟨_, rfl⟩
                rw [hy] at q0 q1 q2 HRV
                clear hy hlc
                obtain ⟨y0, y1, y2⟩ := y
                have HO6 := Lib.hid (HO.out.alloc (.cells #[.string (str y0), .int .i64 y1, .string (str y2)] 29))
                have HS6 : Hid (Sl (wr.alloc (.cells #[.string (str y0), .int .i64 y1, .string (str y2)] 29)) 3 1 (.slice (some ⟨wr.heap.size, 0, none⟩) 1 1) (RW.cells [(y0, y1, y2)])) := Sl.lit wr 29 3 1 #[.string (str y0), .int .i64 y1, .string (str y2)] (0, 0) rfl (by decide)
                have hb6 : Hid (Below G wG (wr.alloc (.cells #[.string (str y0), .int .i64 y1, .string (str y2)] 29))) := hbr.out.alloc hGr _
                have hG6 : G ≤ (wr.alloc (.cells #[.string (str y0), .int .i64 y1, .string (str y2)] 29)).heap.size := by simp; omega
                clear HO hbr hbx hGr
                go_wp2_with (at_builtin; go_must (refine wpList_append_sl rfl _ _ 25 rfl G 29 _ 3 40 Try.underlying25 infoRw rfl (by decide) _ _ _ rfl HO6.out _ 1 (RW.cells [(y0, y1, y2)]) rfl HS6.out (rw_oneCell _) (by unfold maxLen; omega) (by omega) hG6 ?_))
                intro v7 w7 hown7 hgrow hnn
                clear hnn
                have HO7 : Hid (w7.ownsRow G 29 3 v7 (m' - i2) (RW.cells (l.drop i2).reverse)) := by
                  unfold Hid
                  rw [HRV.out, RW.cells_append, show m' - i2 = m' - (i2 + 1) + 1 by omega]
                  exact hown7
                have hb7 : Hid (Below G wG w7) := hb6.out.grown hgrow hG6 (ownBlock_ge HO6.out)
                clear hown7 hgrow HO6 HS6 hb6 HRV q0 q1 q2 hcell hG6
                go_wp2_with fail
                go_roundw
                case rel => exact ⟨i2, by omega, by go_num, HO7, hb7⟩
                case measure => simp [intOf]
              · obtain rfl : k = 0 := by omega
                rw [show ((0 : Nat) : Int) - 1 = -1 from rfl]
                have HOl : Hid (wr.ownsRow B 29 3 u9 l.reverse.length (RW.cells l.reverse)) := by
                  have := ownsRow.base HO.out hBG
                  unfold Hid
                  rw [List.length_reverse, HM.out]
                  exact this
                obtain ⟨a9, n9, c9, hu9⟩ : ∃ a n c, u9 = .slice a n c := by
                  rcases HOl.out.2 with ⟨h, -⟩ | ⟨g, cp, cur, h, -⟩
                  · exact ⟨_, _, _, h⟩
                  · exact ⟨_, _, _, h⟩
                subst hu9
                have HK2 : Hid (Bk wr B u7 us (S.backs (rows.drop (j + 1)))) := HK.out.below (by rw [HG.out]; exact hbr.out)
                have hul : us.length ≤ n := by
                  have h1 := HK.out.len
                  unfold S.backs at h1
                  rw [List.length_map, List.length_reverse, List.length_drop, HN.out] at h1
                  omega
                have HK6 : Hid (Bk (wr.alloc (.cells #[(.slice a9 n9 c9)] 25)) B u7 us (S.backs (rows.drop (j + 1)))) := HK2.out.below ((Below.refl _ _).alloc (Nat.le_refl _) _)
                have HO6 := Lib.hid (HOl.out.alloc (.cells #[(.slice a9 n9 c9)] 25))
                have HS6 : Hid (Sl (wr.alloc (.cells #[(.slice a9 n9 c9)] 25)) 1 1 (.slice (some ⟨wr.heap.size, 0, none⟩) 1 1) [(.slice a9 n9 c9)]) := Sl.lit wr 25 1 1 #[(.slice a9 n9 c9)] (0, 0) rfl (by decide)
                have hone : Hid (∀ u ∈ [(Value.slice a9 n9 c9)], u.oneCell' = true) := fun u hu => by
                  rw [List.mem_singleton.1 hu]
                  rfl
                have hBr : B ≤ (wr.alloc (.cells #[(.slice a9 n9 c9)] 25)).heap.size := by simp; omega
                have hb6 : Hid (Below B wS (wr.alloc (.cells #[(.slice a9 n9 c9)] 25))) := hbx.out.alloc (by omega) _
                clear HO hbr hbx hGr HOl HK HK2 hcell
                go_wp2_with (at_builtin; go_must (refine wpList_append_sl rfl _ _ 22 rfl B 25 _ 1 24 Try.underlying22 infoRws rfl (by decide) _ _ _ rfl HK6.out.own _ 1 [(.slice a9 n9 c9)] rfl HS6.out hone.out (by unfold maxLen; omega) (by omega) hBr ?_))
                intro v7 w7 hown7 hgrow hnn
                clear hnn
                have HK7 : Hid (Bk w7 B v7 (us ++ [(.slice a9 n9 c9)]) (S.backs (rows.drop j))) := by
                  unfold Hid
                  rw [HBS.out]
                  exact HK6.out.push HO6.out hgrow hown7
                have hb7 : Hid (Below B wS w7) := hb6.out.grown hgrow hBr (ownBlock_ge HK6.out.own)
                clear hown7 hgrow HK6 HO6 HS6 hb6 hone HBS hBr
                go_wp2_with fail
                go_roundw
                case rel => exact ⟨j, us ++ [(.slice a9 n9 c9)], by omega, by go_num, HK7, hb7⟩
                case measure => simp [intOf]
          · obtain rfl : m = 0 := by omega
            rw [show ((0 : Nat) : Int) - 1 = -1 from rfl]
            rw [List.drop_zero] at HK
            have hbF : Hid (Below wS.heap.size wS wr) := by rw [HB.out]; exact hbr.out
            have HRF : Hid (Rs wr (.slice p9 c cap9) C) := Three.Ss.below HRB.out hbF.out
            have HVF := Lib.hid (HVB.out.below hbF.out)
            have hbw := Lib.hid (below_next hbwS.out hbF.out)
            have HKV := Lib.hid HK.out.vs
            have HBL : Hid ((S.backs rows).flatten.length = c) := by unfold Hid; rw [S.backs_flat, List.length_reverse]; exact HT.out
            clear HRB HVB hbr hbF HK hbwS HB
            have s := Lib.hid (union_any u7 (S.backs rows) 1000 wr HKV.out (by rw [HBL.out]; omega))
            clear HKV
            go_wp2_with fail
            refine s.out.mono ?_
            rintro e wA ⟨vA, D, rfl, hD, hrA, hx⟩
            obtain rfl := S.turned_back HC.out HSC.out hD
            rw [S.upto_all (by rw [HCc.out]; omega)] at hrA
            have HRA : Hid (Rs wA (.slice p9 c cap9) D) := Three.Ss.below HRF.out hx
            have HVA := Lib.hid (HVF.out.below hx)
            have hbA := Lib.hid (below_next hbw.out hx)
            have s2 := Lib.hid (rwSame_any vA (.slice p9 c cap9) D D wA hrA HRA.out)
            rw [show (D == D) = true by simp] at s2
            clear hD hrA hx s HRF HVF hbw HSC
            go_wp2_with fail
            refine s2.out.mono ?_
            rintro e wB ⟨rfl, hx⟩
            have HRB : Hid (Rs wB (.slice p9 c cap9) D) := Three.Ss.below HRA.out hx
            have HVB := Lib.hid (HVA.out.below hx)
            have hbB := Lib.hid (below_next hbA.out hx)
            have hal : Hid (Below wB.heap.size wB (wB.alloc (.cells #[.slice p9 c cap9] 25))) := (Below.refl _ _).alloc (Nat.le_refl _) _
            have s := Lib.hid (union_any (.slice (some ⟨wB.heap.size, 0, none⟩) 1 1) [D] 1000 (wB.alloc (.cells #[.slice p9 c cap9] 25)) (Vs.one HRB.out) (by simp; rw [HCc.out]; omega))
            clear hx s2 HRA HVA hbA
            go_wp2_with fail
            refine s.out.mono ?_
            rintro e wC ⟨vC, D2, rfl, hD, hrC, hx⟩
            obtain rfl := S.one_again HC.out.sorted hD
            rw [S.upto_all (by rw [HCc.out]; omega)] at hrC
            have hx := below_next hal.out hx
            have HRC : Hid (Rs wC (.slice p9 c cap9) D2) := Three.Ss.below HRB.out hx
            have HVC := Lib.hid (HVB.out.below hx)
            have hbC := Lib.hid (below_next hbB.out hx)
            have s2 := Lib.hid (rwSame_any vC (.slice p9 c cap9) D2 D2 wC hrC HRC.out)
            rw [show (D2 == D2) = true by simp] at s2
            clear hD hrC hx s HRB HVB hbB hal
            go_wp2_with fail
            refine s2.out.mono ?_
            rintro e wD ⟨rfl, hx⟩
            have HVD := Lib.hid (HVC.out.below hx)
            have hbD := Lib.hid (below_next hbC.out hx)
            have s := Lib.hid (union_any _ rows 0 wD HVD.out (by rw [HT.out]; omega))
            clear hx s2 HRC HVC hbC HVD
            go_wp2_with fail
            refine s.out.mono ?_
            rintro e wE ⟨vE, D3, rfl, -, hrE, hx⟩
            rw [S.upto_none] at hrE
            obtain ⟨aE, cE, rfl, -⟩ := hrE.shape
            rw [List.length_nil] at hrE ⊢
            have hbE := Lib.hid (below_next hbD.out hx)
            have s2 := Lib.hid (union_any (.slice none 0 0) [] 9 wE (Vs.nil _) (by simp))
            clear hx s hrE hbD
            go_wp2_with fail
            refine s2.out.mono ?_
            rintro e wF ⟨vF, D4, rfl, hD, hrF, hx⟩
            obtain rfl := S.of_none hD
            rw [List.take_nil] at hrF
            obtain ⟨aF, cF, rfl, -⟩ := hrF.shape
            rw [List.length_nil] at hrF ⊢
            have hbF := Lib.hid (below_next hbE.out hx)
            clear hx s2 hrF hbE hD
            go_wp2_with fail
            go_ret
            exact ⟨rfl, hbF.out⟩
end Go.Proofs.Ytgipmbphbcnhcaa
