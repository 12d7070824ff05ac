/- What the reference's Purge returns. -/
import Derived.Test.YtljpfocmnppjgaaDoorOp10
namespace Go.Proofs.YtljpfocmnppjgaaDoor
open Go Go.RowKit

set_option maxRecDepth 4000 in
set_option maxHeartbeats 8000000 in
theorem refPurge_any (vn vu vq vg vl : Value) (us : List Nat) (gs : List Gr) (l : List Opr) (level : Int) (w : World) (hu : Us w vu us) (hU : U64s us) (hg : Gs w vg gs) (hl : Os w vl l) (hlen : l.length ≤ 1000) (hfew : Few l) :
    Calls Tryd.prog 15 #[cfv vn vu vq vg, vl, .int .i64 level] w fun e w' => ∃ v' ws, e = .returned v' ∧ Ob w w' w.heap.size v' (L.purges us gs (L.down us level) l) ws ∧ Below w.heap.size w w' := by
  obtain ⟨ao, cap, rfl, -⟩ := hl.shape
  have HL := Lib.hid hl
  have HSets := Lib.hid (fun W (hW : Below w.heap.size w W) => refSets_any vn vu vq vg (.slice ao l.length cap) us gs l level W (hu.below hW) hU (Three.Ss.below hg hW) (hl.below hW) (by omega))
  have hdlt := L.down_lt us level
  have HCb := Lib.hid (Cb.new w vn vu vq vg)
  have hb1 : Hid (Below w.heap.size w (w.alloc (.cells #[vn, vu, vq, vg] 27))) := (Below.refl _ _).alloc (Nat.le_refl _) _
  have HE : Hid (L.purgeTo us gs (L.down us level) l l.length = L.purges us gs (L.down us level) l) := rfl
  have HBL := Lib.hid (fun i => L.purgeTo_length us gs (L.down us level) l i)
  have HBS : Hid (∀ i (h : i < l.length), L.purgeTo us gs (L.down us level) l (i + 1) = L.purgeTo us gs (L.down us level) l i ++ L.pick (L.inn (L.cur us gs (L.down us level) (l.drop i))) l[i]) := fun i h => L.purgeTo_step h
  have HSL : Hid ((L.sets us gs (L.down us level) l).length = l.length) := L.sets_length _ _ _ _
  have HCL : Hid (∀ i, L.cur us gs (L.down us level) (l.drop i) < 18446744073709551616) := fun i => L.cur_lt hdlt _
  have HPK : Hid (∀ (p : Int → Bool) (o : Opr), L.pick p o = if L.seen p o then [L.trim p o] else []) := fun p o => rfl
  have HFew := Lib.hid hfew
  clear hl hu hU hg hfew hdlt
  obtain ⟨d, hd⟩ : ∃ d, L.down us level = d := ⟨_, rfl⟩
  have HDD := Lib.hid hd
  rw [hd] at HSets HE HBL HBS HSL HCL
  clear hd
  have HSA : Hid (∀ i (_ : i < l.length), (L.sets us gs d l).getD i 0 = L.cur us gs d (l.drop i)) := fun i h => by
    rw [List.getD_eq_getElem?_getD, List.getElem?_eq_getElem (by rw [L.sets_length]; exact h), Option.getD_some, L.sets_at]
  obtain ⟨n, hn⟩ : ∃ n, l.length = n := ⟨_, rfl⟩
  have HN := Lib.hid hn
  rw [hn] at HL hlen HE HSets HSL
  try rw [hn]
  clear hn
  have HS1 := HSets.out _ hb1.out
  have HS1 := Lib.hid HS1
  go_enter Tryd.func15, Tryd.ntmps15
  have q0 := HCb.out.cell.1
  have q1 := HCb.out.cell.2.1
  have q2 := HCb.out.cell.2.2.1
  have q3 := HCb.out.cell.2.2.2
  go_wp2_with fail
  refine HS1.out.mono ?_
  rintro e w2 ⟨vs, rfl, hos, hx⟩
  have HV : Hid (Us w2 vs (L.sets us gs d l)) := by
    unfold Hid Us
    rw [HSL.out]
    exact Sl.of_owns hos
  have hb2 := Lib.hid (below_next hb1.out hx)
  obtain ⟨sa, sc, rfl, -⟩ := HV.out.shape
  rw [HSL.out] at HV ⊢
  clear hos hx hb1 HS1 HSets HCb q0 q1 q2 q3
  go_wp2_with fail
  go_loopw [8, 9] (fun t i wr => ∃ (j : Nat) (ws : List Value), j ≤ n ∧ i = .int .i64 j ∧ Hid (Ob w wr w2.heap.size t (L.purgeTo us gs d l j) ws) ∧ Hid (Below w2.heap.size w2 wr)) (fun _ i _ => n - (intOf i).toNat)
  case atStart => exact ⟨0, [], by omega, rfl, Ob.nil _ _ _, Below.refl _ _⟩
  case round =>
    obtain ⟨j, ws, hj, rfl, HO, hbr2⟩ := hrel
    have hbr := Lib.hid (below_next hb2.out hbr2.out)
    by_cases hjn : j < n
    · have hjI : (j : Int) < (n : Int) := by omega
      have hj0 : (0 : Int) ≤ (j : Int) := by omega
      obtain ⟨b, off, u, rfl, hks, hat⟩ := HL.out.at (j := j) (by rw [HN.out]; exact hjn)
      obtain ⟨ua, uc, rfl, -⟩ := hks.shape
      have HST := HBS.out j (by rw [HN.out]; exact hjn)
      have hlk := HFew.out _ (List.getElem_mem (l := l) (n := j) (by rw [HN.out]; exact hjn))
      generalize (l[j]'(by rw [HN.out]; exact hjn)).keep.length = uq at *
      obtain ⟨o, ho⟩ : ∃ o, l[j]'(by rw [HN.out]; exact hjn) = o := ⟨_, rfl⟩
      rw [ho, HPK.out] at HST
      rw [ho] at hks hat
      have hsl := HCL.out j
      obtain ⟨b9, o9, rfl, hsc⟩ := (HV.out.below hbr2.out).at (j := j) (by rw [HSL.out]; exact hjn)
      have hsj := hsc j (by rw [HSL.out]; exact hjn)
      rw [HSA.out j (by rw [HN.out]; exact hjn)] at hsj
      obtain ⟨s, hs⟩ : ∃ s, L.cur us gs d (l.drop j) = s := ⟨_, rfl⟩
      rw [hs] at HST hsl hsj
      have HSJ : Hid (∀ W, Below w2.heap.size w2 W → W.cell? ⟨b9, o9 + j, none⟩ = some (.int .u64 (s : Int))) := fun W hW => by
        obtain ⟨b', o', e, hc⟩ := (HV.out.below hW).at (j := j) (by rw [HSL.out]; exact hjn)
        obtain ⟨rfl, rfl⟩ : b9 = b' ∧ o9 = o' := by simpa using e
        have := hc j (by rw [HSL.out]; exact hjn)
        rw [HSA.out j (by rw [HN.out]; exact hjn), hs] at this
        exact this
      have HST := Lib.hid HST
      have HKS := Lib.hid hks
      have HAT := Lib.hid hat
      have hok : o.keep.length = uq := by
        obtain ⟨_, _, he, -⟩ := hks.shape
        cases he
        rfl
      have hok := Lib.hid hok
      clear ho hks hat hs hsc hsj
      obtain ⟨p0, p1, p2, p3, p4, p5, p6, p7, p8, p9, p10⟩ := HAT.out wr hbr.out
      simp only [Op11.put] at p0 p1 p2 p3 p4 p5 p6 p7 p8 p9 p10
      obtain ⟨q, hq⟩ : ∃ q, wr.heap.size = q := ⟨_, rfl⟩
      have HQs := Lib.hid hq
      have hHQ : Bop (wr.alloc (.cells #[.int .i64 o.kind, .int .i64 o.level, .int .i64 o.ses, .int .i64 o.snap, .string (str o.bucket), .string (str o.key), .string (str o.val), .int .i64 o.label, .int .i64 o.to, .int .i64 o.n, .slice ua uq uc] 34)) wr.heap.size (o.put (.slice ua uq uc)) := heap_alloc_new wr _
      have hb3 : Below w2.heap.size w2 (wr.alloc (.cells #[.int .i64 o.kind, .int .i64 o.level, .int .i64 o.ses, .int .i64 o.snap, .string (str o.bucket), .string (str o.key), .string (str o.val), .int .i64 o.label, .int .i64 o.to, .int .i64 o.n, .slice ua uq uc] 34)) := hbr2.out.alloc hbr2.out.size _
      have hB3 : Below q wr (wr.alloc (.cells #[.int .i64 o.kind, .int .i64 o.level, .int .i64 o.ses, .int .i64 o.snap, .string (str o.bucket), .string (str o.key), .string (str o.val), .int .i64 o.label, .int .i64 o.to, .int .i64 o.n, .slice ua uq uc] 34)) := (Below.refl _ _).alloc (Nat.le_of_eq hq.symm) _
      have hq2 : w2.heap.size ≤ q := by rw [← hq]; exact hbr2.out.size
      rw [hq] at hHQ
      obtain ⟨w3, hw3⟩ : ∃ w3, wr.alloc (.cells #[.int .i64 o.kind, .int .i64 o.level, .int .i64 o.ses, .int .i64 o.snap, .string (str o.bucket), .string (str o.key), .string (str o.val), .int .i64 o.label, .int .i64 o.to, .int .i64 o.n, .slice ua uq uc] 34) = w3 := ⟨_, rfl⟩
      rw [hw3] at hHQ hb3 hB3
      obtain ⟨wS, hwS⟩ : ∃ wS, wr = wS := ⟨_, rfl⟩
      rw [hwS] at HO hB3 HQs
      clear hwS
      have HBq := Lib.hid hHQ
      have hb3 := Lib.hid hb3
      have hB3 := Lib.hid hB3
      clear hHQ hbr hbr2
      go_wp2_with fail
      try rw [hw3]
      clear hw3 hq p0 p1 p2 p3 p4 p5 p6 p7 p8 p9 p10
      refine wp_region_mix ext_grow [(0, false), (1, false), (2, false), (3, false), (4, false), (5, false), (6, false), (7, false)] (by kernel_rfl) (by kernel_rfl) ?_
      have HB4 : Hid (Bop w3.drew q (o.put (.slice ua uq uc))) := HBq.out
      have hb4 : Hid (Below w2.heap.size w2 w3.drew) := hb3.out.drew
      have hB4 : Hid (Below q wS w3.drew) := hB3.out.drew
      clear HBq hb3 hB3
      generalize w3.drew = w4 at *
      have c1 : ∀ x : Later w4, x.1.cell? ⟨q, 1, none⟩ = some (.int .i64 o.level) := fun x => (HB4.out.later x.2).at.c1
      have cs : ∀ x : Later w4, x.1.cell? ⟨b9, o9 + j, none⟩ = some (.int .u64 (s : Int)) := fun x => HSJ.out x.1 (below_next hb4.out x.2)
      have HIy : Hid (∀ W, Calls Tryd.prog 32 #[.int .u64 s, .int .i64 o.level] W fun e w' => e = .returned (.bool (L.inn s o.level)) ∧ Ext W w') := fun W => (refIn_any s o.level hsl W).mono fun e w' ⟨h1, h2⟩ => ⟨h1, ext_of_eq h2⟩
      have HInn : Hid (∀ x W, Calls Tryd.prog 32 #[.int .u64 s, .int .i64 x] W fun e w' => e = .returned (.bool (L.inn s x)) ∧ W = w') := fun x W => refIn_any s x hsl W
      obtain ⟨own, hown⟩ : ∃ own, L.inn s o.level = own := ⟨_, rfl⟩
      rw [hown] at HIy
      have HOWN := Lib.hid hown
      clear hown
      repeat (refine mix_soft rfl (fun K hK => ?_); go_simp; (first | (refine hK _ ?_; clear hK K) | (apply Exists.intro; refine ⟨fun x => ?_, hK _ ?_⟩; (first | (go_at_call 32; with_reducible exact HIy.out _)); clear hK K)))
      refine mix_done fun w5 hx => ?_
      have HB5 := Lib.hid (HB4.out.later hx)
      have hb5 := Lib.hid (below_next hb4.out hx)
      have hB5 : Hid (Below q wS w5) := hB4.out.trans (hx.mono (by have := HB4.out.lt; omega))
      clear hx HB4 hb4 hB4 c1 cs HIy
      by_cases h16 : o.kind = 16
      · have d0 : (o.kind != 16) = false := by simp [h16]
        have hseen : L.seen (L.inn s) o = true := by unfold L.seen; simp [h16]
        have hg0 := HB5.out.at.c0
        simp only [Op11.put] at hg0
        rw [hseen, if_pos rfl] at HST
        clear hseen
        have HTRg : Hid (L.trim (L.inn s) o = if own then { o with keep := L.keeps (L.inn s) o.keep } else { o with keep := L.keeps (L.inn s) o.keep, level := 0, ses := 0, n := 0 }) := by unfold Hid L.trim; rw [if_pos h16, HOWN.out]
        obtain ⟨G, hG⟩ : ∃ G, w5.heap.size = G := ⟨_, rfl⟩
        have HG := Lib.hid hG
        have hqG : q < G := by rw [← hG]; exact HB5.out.lt
        have hBG : Hid (Below G w5 w5) := Below.refl _ _
        obtain ⟨wG, hwG⟩ : ∃ wG, w5 = wG := ⟨_, rfl⟩
        rw [hwG] at HG HB5 hb5 hB5
        have hBG : Hid (Below G wG w5) := by rw [← hwG]; exact Below.refl _ _
        clear hG h16 hwG
        go_wp2_with fail
        clear hg0
        go_loopw [12, 13] (fun t i wr => ∃ k : Nat, k ≤ uq ∧ i = .int .i64 k ∧ Hid (wr.ownsRow G 9 1 t k (strCells ((L.keeps (L.inn s) o.keep).take k))) ∧ Hid (Below G wG wr)) (fun _ i _ => uq - (intOf i).toNat)
        case atStart => exact ⟨0, by omega, rfl, World.ownsRow_nil _ _ _ _, hBG⟩
        case round =>
          clear hBG
          obtain ⟨k, hk, rfl, HK, hBG⟩ := hrel
          have hbw : Hid (Below w2.heap.size w2 wr) := below_next hb5.out (by rw [HG.out]; exact hBG.out)
          have HBw : Hid (Bop wr q (o.put (.slice ua uq uc))) := HB5.out.below hBG.out hqG
          have g10 := HBw.out.at.c10
          simp only [Op11.put] at g10
          by_cases hku : k < uq
          · have hkI : (k : Int) < (uq : Int) := by omega
            have hk0 : (0 : Int) ≤ (k : Int) := by omega
            have hsj := HSJ.out wr hbw.out
            have HKT : Hid ((L.keeps (L.inn s) o.keep).take (k + 1) = (L.keeps (L.inn s) o.keep).take k ++ [if L.inn s (k : Int) then o.keep[k]'(by rw [hok.out]; exact hku) else []]) := L.keeps_step (by rw [hok.out]; exact hku)
            cases hc : L.inn s (k : Int) with
            | true =>
              have st := Lib.hid (HInn.out (k : Int) (wr.alloc (.cells #[.string (str (o.keep[k]'(by rw [hok.out]; exact hku)))] 9)))
              have st := Lib.hid (HInn.out (k : Int) wr)
              rw [hc] at st
              rw [hc, if_pos rfl] at HKT
              obtain ⟨bk, ok, rfl, hat⟩ := HKS.out.at (j := k) (by rw [hok.out]; exact hku)
              have hx := hat wr (below_next hb2.out hbw.out) k (by rw [hok.out]; exact hku)
              obtain ⟨x, hxx⟩ : ∃ x, o.keep[k]'(by rw [hok.out]; exact hku) = x := ⟨_, rfl⟩
              rw [hxx] at hx HKT
              clear hc hat hxx HBw hbw
              have HO6 := Lib.hid (HK.out.alloc (.cells #[.string (str x)] 9))
              have HS6 : Hid (Sl (wr.alloc (.cells #[.string (str x)] 9)) 1 1 (.slice (some ⟨wr.heap.size, 0, none⟩) 1 1) (strCells [x])) := Sl.lit wr 9 1 1 #[.string (str x)] (0, 0) rfl (by decide)
              have hsz : G ≤ wr.heap.size := by have := hBG.out.size; rw [HG.out] at this; exact this
              have hB6 : Hid (Below G wG (wr.alloc (.cells #[.string (str x)] 9))) := hBG.out.alloc hsz _
              have hG6 : G ≤ (wr.alloc (.cells #[.string (str x)] 9)).heap.size := by simp; omega
              clear HK hBG
              go_wp2_with fail
              refine st.out.mono ?_
              rintro e w3 ⟨rfl, rfl⟩
              clear st
              go_wp2_with (at_builtin; go_must (refine wpList_append_sl rfl _ _ 22 rfl G 9 _ 1 16 Tryd.underlying22 infoStr rfl (by decide) _ _ _ rfl HO6.out _ 1 (strCells [x]) rfl HS6.out (str_oneCell _) (by unfold maxLen; omega) (by omega) hG6 ?_))
              intro v7 w7 hown7 hgrow hnn
              clear hnn
              have HO7 : Hid (w7.ownsRow G 9 1 v7 (k + 1) (strCells ((L.keeps (L.inn s) o.keep).take (k + 1)))) := by
                unfold Hid
                rw [HKT.out, strCells_append]
                exact hown7
              have hB7 : Hid (Below G wG w7) := hB6.out.grown hgrow hG6 (ownBlock_ge HO6.out)
              clear hown7 hgrow HO6 HS6 hB6 hG6 hsz
              go_wp2_with fail
              go_roundw
              case rel => exact ⟨k + 1, by omega, by go_num, HO7, hB7⟩
              case measure => simp [intOf]; omega
            | false =>
              have st := Lib.hid (HInn.out (k : Int) wr)
              rw [hc] at st
              rw [hc, if_neg (by decide)] at HKT
              have HKT : Hid ((L.keeps (L.inn s) o.keep).take (k + 1) = (L.keeps (L.inn s) o.keep).take k ++ [([] : List UInt8)]) := HKT
              clear hc HBw hbw
              have HO6 := Lib.hid (HK.out.alloc (.cells #[.string (str ([] : List UInt8))] 9))
              have HS6 : Hid (Sl (wr.alloc (.cells #[.string (str ([] : List UInt8))] 9)) 1 1 (.slice (some ⟨wr.heap.size, 0, none⟩) 1 1) (strCells [([] : List UInt8)])) := Sl.lit wr 9 1 1 #[.string (str ([] : List UInt8))] (0, 0) rfl (by decide)
              have hsz : G ≤ wr.heap.size := by have := hBG.out.size; rw [HG.out] at this; exact this
              have hB6 : Hid (Below G wG (wr.alloc (.cells #[.string (str ([] : List UInt8))] 9))) := hBG.out.alloc hsz _
              have hG6 : G ≤ (wr.alloc (.cells #[.string (str ([] : List UInt8))] 9)).heap.size := by simp; omega
              clear HK hBG
              go_wp2_with fail
              refine st.out.mono ?_
              rintro e w3 ⟨rfl, rfl⟩
              clear st
              go_wp2_with (at_builtin; go_must (refine wpList_append_sl rfl _ _ 22 rfl G 9 _ 1 16 Tryd.underlying22 infoStr rfl (by decide) _ _ _ rfl HO6.out _ 1 (strCells [([] : List UInt8)]) rfl HS6.out (str_oneCell _) (by unfold maxLen; omega) (by omega) hG6 ?_))
              intro v7 w7 hown7 hgrow hnn
              clear hnn
              have HO7 : Hid (w7.ownsRow G 9 1 v7 (k + 1) (strCells ((L.keeps (L.inn s) o.keep).take (k + 1)))) := by
                unfold Hid
                rw [HKT.out, strCells_append]
                exact hown7
              have hB7 : Hid (Below G wG w7) := hB6.out.grown hgrow hG6 (ownBlock_ge HO6.out)
              clear hown7 hgrow HO6 HS6 hB6 hG6 hsz
              go_wp2_with fail
              go_roundw
              case rel => exact ⟨k + 1, by omega, by go_num, HO7, hB7⟩
              case measure => simp [intOf]; omega
          · obtain rfl : k = uq := by omega
            rw [show (L.keeps (L.inn s) o.keep).take k = L.keeps (L.inn s) o.keep by rw [List.take_of_length_le (by rw [L.keeps_length, hok.out]; exact Nat.le_refl _)]] at HK
            obtain ⟨a', c', rfl, -⟩ := own_strs HK.out
            have f10 := HBw.out.frozen 10
            have HBx := Lib.hid (HBw.out.set10 (.slice a' k c'))
            have HKx := Lib.hid (ownsRow_setCell_below HK.out (a := ⟨q, 10, none⟩) hqG (.slice a' k c'))
            have hbx := Lib.hid (hbw.out.setCell (p := ⟨q, 10, none⟩) (by simpa using hq2) (.slice a' k c'))
            have hBx : Hid (Below q wS (wr.setCell ⟨q, 10, none⟩ (.slice a' k c'))) := (hB5.out.trans (hBG.out.mono (Nat.le_of_lt hqG))).setCell (p := ⟨q, 10, none⟩) (by simp) _
            clear HBw HK hbw hBG HB5 hb5 hB5 HSJ HInn
            cases own with
            | true =>
              rw [if_pos rfl] at HTRg
              rw [HTRg.out] at HST
              clear HTRg
              simp only [Op11.put] at HBx
              obtain ⟨p0, p1, p2, p3, p4, p5, p6, p7, p8, p9, p10⟩ := HBx.out.at
              simp only [] at p0 p1 p2 p3 p4 p5 p6 p7 p8 p9 p10
              have HOz : Hid (Ob w (wr.setCell ⟨q, 10, none⟩ (.slice a' k c')) w2.heap.size u8 (L.purgeTo us gs d l j) ws) := HO.out.below (by rw [HQs.out]; exact hBx.out)
              have hbz := hbx
              have HKz : Hid (Kx w (wr.setCell ⟨q, 10, none⟩ (.slice a' k c')) w2.heap.size (.slice a' k c') (L.keeps (L.inn s) o.keep)) := .inr (by rw [L.keeps_length, hok.out]; exact ownsRow.base HKx.out (by omega))
              clear HO hBx hbx HKx HBx
              have HO5 := Lib.hid (HOz.out.below ((Below.refl _ (wr.setCell ⟨q, 10, none⟩ (.slice a' k c'))).alloc (Nat.le_refl _) (.cells #[.int .i64 o.kind, .int .i64 o.level, .int .i64 o.ses, .int .i64 o.snap, .string (str o.bucket), .string (str o.key), .string (str o.val), .int .i64 o.label, .int .i64 o.to, .int .i64 o.n, .slice a' k c'] 34)))
              have HK5 := Lib.hid ((HKz.out).below ((Below.refl _ (wr.setCell ⟨q, 10, none⟩ (.slice a' k c'))).alloc (Nat.le_refl _) (.cells #[.int .i64 o.kind, .int .i64 o.level, .int .i64 o.ses, .int .i64 o.snap, .string (str o.bucket), .string (str o.key), .string (str o.val), .int .i64 o.label, .int .i64 o.to, .int .i64 o.n, .slice a' k c'] 34)))
              have HS5 : Hid (Sl ((wr.setCell ⟨q, 10, none⟩ (.slice a' k c')).alloc (.cells #[.int .i64 o.kind, .int .i64 o.level, .int .i64 o.ses, .int .i64 o.snap, .string (str o.bucket), .string (str o.key), .string (str o.val), .int .i64 o.label, .int .i64 o.to, .int .i64 o.n, .slice a' k c'] 34)) 11 1 (.slice (some ⟨(wr.setCell ⟨q, 10, none⟩ (.slice a' k c')).heap.size, 0, none⟩) 1 1) (opCells [⟨o.kind, o.level, o.ses, o.snap, o.bucket, o.key, o.val, o.label, o.to, o.n, .slice a' k c'⟩])) := Sl.lit (wr.setCell ⟨q, 10, none⟩ (.slice a' k c')) 34 11 1 #[.int .i64 o.kind, .int .i64 o.level, .int .i64 o.ses, .int .i64 o.snap, .string (str o.bucket), .string (str o.key), .string (str o.val), .int .i64 o.label, .int .i64 o.to, .int .i64 o.n, .slice a' k c'] (0, 0) rfl (by decide)
              have hzz : ((wr.setCell ⟨q, 10, none⟩ (.slice a' k c'))).heap.size = wr.heap.size := by simp [World.setCell]
              rw [hzz] at HS5
              clear hzz
              have hb5' : Hid (Below w2.heap.size w2 ((wr.setCell ⟨q, 10, none⟩ (.slice a' k c')).alloc (.cells #[.int .i64 o.kind, .int .i64 o.level, .int .i64 o.ses, .int .i64 o.snap, .string (str o.bucket), .string (str o.key), .string (str o.val), .int .i64 o.label, .int .i64 o.to, .int .i64 o.n, .slice a' k c'] 34))) := hbz.out.alloc hbz.out.size _
              have hll := HBL.out j
              obtain ⟨m, hm⟩ : ∃ m, (L.purgeTo us gs d l j).length = m := ⟨_, rfl⟩
              have hown := HO5.out.own
              rw [hm] at hown hll
              have HOW := Lib.hid hown
              have HM := Lib.hid hm
              clear HOz hbz hown hm
              go_wp2_with (at_builtin; go_must (refine wpList_append_sl rfl _ _ 28 rfl w2.heap.size 34 _ 11 128 Tryd.underlying28 infoOp rfl (by decide) _ _ _ rfl HOW.out _ 1 (opCells [⟨o.kind, o.level, o.ses, o.snap, o.bucket, o.key, o.val, o.label, o.to, o.n, .slice a' k c'⟩]) rfl HS5.out (op_one ⟨_, _, _, rfl⟩) (by unfold maxLen; omega) (by omega) hb5'.out.size ?_))
              intro v7 w7 hown7 hgrow hnn
              clear hnn
              have HO7 : Hid (Ob w w7 w2.heap.size v7 (L.purgeTo us gs d l (j + 1)) (ws ++ [.slice a' k c'])) := by
                unfold Hid
                rw [HST.out]
                refine HO5.out.push HK5.out hgrow ?_
                rw [HM.out]
                exact hown7
              have hb7' : Hid (Below w2.heap.size w2 w7) := hb5'.out.grown hgrow hb5'.out.size (ownBlock_ge HOW.out)
              clear hown7 hgrow HO5 HK5 HS5 hb5' HOW HM
              go_wp2_with fail
              go_roundw
              case rel => exact ⟨j + 1, ws ++ [.slice a' k c'], by omega, by go_num, HO7, hb7'⟩
              case measure => simp [intOf]; omega
            | false =>
              rw [if_neg (by decide)] at HTRg
              rw [HTRg.out] at HST
              clear HTRg
              have HB1 := Lib.hid (HBx.out.set1 0)
              have HB2 := Lib.hid (HB1.out.set2 0)
              have HB3 := Lib.hid (HB2.out.set9 0)
              have g1 := HBx.out.at.c1
              have g2 := HB1.out.at.c2
              have g9 := HB2.out.at.c9
              have h1 := HBx.out.frozen 1
              have h2 := HB1.out.frozen 2
              have h9 := HB2.out.frozen 9
              simp only [Op11.put] at HBx HB1 HB2 HB3 g1 g2 g9
              have HKx := Lib.hid (ownsRow_setCell_below (ownsRow_setCell_below (ownsRow_setCell_below HKx.out (a := ⟨q, 1, none⟩) hqG (.int .i64 0)) (a := ⟨q, 2, none⟩) hqG (.int .i64 0)) (a := ⟨q, 9, none⟩) hqG (.int .i64 0))
              have hbx := Lib.hid (((hbx.out.setCell (p := ⟨q, 1, none⟩) (by simpa using hq2) (.int .i64 0)).setCell (p := ⟨q, 2, none⟩) (by simpa using hq2) (.int .i64 0)).setCell (p := ⟨q, 9, none⟩) (by simpa using hq2) (.int .i64 0))
              have hBx := Lib.hid (((hBx.out.setCell (p := ⟨q, 1, none⟩) (by simp) (.int .i64 0)).setCell (p := ⟨q, 2, none⟩) (by simp) (.int .i64 0)).setCell (p := ⟨q, 9, none⟩) (by simp) (.int .i64 0))
              have HBx := HB3
              clear HB1 HB2 HB3
              obtain ⟨p0, p1, p2, p3, p4, p5, p6, p7, p8, p9, p10⟩ := HBx.out.at
              simp only [] at p0 p1 p2 p3 p4 p5 p6 p7 p8 p9 p10
              have HOz : Hid (Ob w ((((wr.setCell ⟨q, 10, none⟩ (.slice a' k c')).setCell ⟨q, 1, none⟩ (.int .i64 0)).setCell ⟨q, 2, none⟩ (.int .i64 0)).setCell ⟨q, 9, none⟩ (.int .i64 0)) w2.heap.size u8 (L.purgeTo us gs d l j) ws) := HO.out.below (by rw [HQs.out]; exact hBx.out)
              have hbz := hbx
              have HKz : Hid (Kx w ((((wr.setCell ⟨q, 10, none⟩ (.slice a' k c')).setCell ⟨q, 1, none⟩ (.int .i64 0)).setCell ⟨q, 2, none⟩ (.int .i64 0)).setCell ⟨q, 9, none⟩ (.int .i64 0)) w2.heap.size (.slice a' k c') (L.keeps (L.inn s) o.keep)) := .inr (by rw [L.keeps_length, hok.out]; exact ownsRow.base HKx.out (by omega))
              clear HO hBx hbx HKx HBx
              have HO5 := Lib.hid (HOz.out.below ((Below.refl _ ((((wr.setCell ⟨q, 10, none⟩ (.slice a' k c')).setCell ⟨q, 1, none⟩ (.int .i64 0)).setCell ⟨q, 2, none⟩ (.int .i64 0)).setCell ⟨q, 9, none⟩ (.int .i64 0))).alloc (Nat.le_refl _) (.cells #[.int .i64 o.kind, .int .i64 0, .int .i64 0, .int .i64 o.snap, .string (str o.bucket), .string (str o.key), .string (str o.val), .int .i64 o.label, .int .i64 o.to, .int .i64 0, .slice a' k c'] 34)))
              have HK5 := Lib.hid ((HKz.out).below ((Below.refl _ ((((wr.setCell ⟨q, 10, none⟩ (.slice a' k c')).setCell ⟨q, 1, none⟩ (.int .i64 0)).setCell ⟨q, 2, none⟩ (.int .i64 0)).setCell ⟨q, 9, none⟩ (.int .i64 0))).alloc (Nat.le_refl _) (.cells #[.int .i64 o.kind, .int .i64 0, .int .i64 0, .int .i64 o.snap, .string (str o.bucket), .string (str o.key), .string (str o.val), .int .i64 o.label, .int .i64 o.to, .int .i64 0, .slice a' k c'] 34)))
              have HS5 : Hid (Sl (((((wr.setCell ⟨q, 10, none⟩ (.slice a' k c')).setCell ⟨q, 1, none⟩ (.int .i64 0)).setCell ⟨q, 2, none⟩ (.int .i64 0)).setCell ⟨q, 9, none⟩ (.int .i64 0)).alloc (.cells #[.int .i64 o.kind, .int .i64 0, .int .i64 0, .int .i64 o.snap, .string (str o.bucket), .string (str o.key), .string (str o.val), .int .i64 o.label, .int .i64 o.to, .int .i64 0, .slice a' k c'] 34)) 11 1 (.slice (some ⟨((((wr.setCell ⟨q, 10, none⟩ (.slice a' k c')).setCell ⟨q, 1, none⟩ (.int .i64 0)).setCell ⟨q, 2, none⟩ (.int .i64 0)).setCell ⟨q, 9, none⟩ (.int .i64 0)).heap.size, 0, none⟩) 1 1) (opCells [⟨o.kind, 0, 0, o.snap, o.bucket, o.key, o.val, o.label, o.to, 0, .slice a' k c'⟩])) := Sl.lit ((((wr.setCell ⟨q, 10, none⟩ (.slice a' k c')).setCell ⟨q, 1, none⟩ (.int .i64 0)).setCell ⟨q, 2, none⟩ (.int .i64 0)).setCell ⟨q, 9, none⟩ (.int .i64 0)) 34 11 1 #[.int .i64 o.kind, .int .i64 0, .int .i64 0, .int .i64 o.snap, .string (str o.bucket), .string (str o.key), .string (str o.val), .int .i64 o.label, .int .i64 o.to, .int .i64 0, .slice a' k c'] (0, 0) rfl (by decide)
              have hzz : (((((wr.setCell ⟨q, 10, none⟩ (.slice a' k c')).setCell ⟨q, 1, none⟩ (.int .i64 0)).setCell ⟨q, 2, none⟩ (.int .i64 0)).setCell ⟨q, 9, none⟩ (.int .i64 0))).heap.size = wr.heap.size := by simp [World.setCell]
              rw [hzz] at HS5
              clear hzz
              have hb5' : Hid (Below w2.heap.size w2 (((((wr.setCell ⟨q, 10, none⟩ (.slice a' k c')).setCell ⟨q, 1, none⟩ (.int .i64 0)).setCell ⟨q, 2, none⟩ (.int .i64 0)).setCell ⟨q, 9, none⟩ (.int .i64 0)).alloc (.cells #[.int .i64 o.kind, .int .i64 0, .int .i64 0, .int .i64 o.snap, .string (str o.bucket), .string (str o.key), .string (str o.val), .int .i64 o.label, .int .i64 o.to, .int .i64 0, .slice a' k c'] 34))) := hbz.out.alloc hbz.out.size _
              have hll := HBL.out j
              obtain ⟨m, hm⟩ : ∃ m, (L.purgeTo us gs d l j).length = m := ⟨_, rfl⟩
              have hown := HO5.out.own
              rw [hm] at hown hll
              have HOW := Lib.hid hown
              have HM := Lib.hid hm
              clear HOz hbz hown hm
              go_wp2_with (at_builtin; go_must (refine wpList_append_sl rfl _ _ 28 rfl w2.heap.size 34 _ 11 128 Tryd.underlying28 infoOp rfl (by decide) _ _ _ rfl HOW.out _ 1 (opCells [⟨o.kind, 0, 0, o.snap, o.bucket, o.key, o.val, o.label, o.to, 0, .slice a' k c'⟩]) rfl HS5.out (op_one ⟨_, _, _, rfl⟩) (by unfold maxLen; omega) (by omega) hb5'.out.size ?_))
              intro v7 w7 hown7 hgrow hnn
              clear hnn
              have HO7 : Hid (Ob w w7 w2.heap.size v7 (L.purgeTo us gs d l (j + 1)) (ws ++ [.slice a' k c'])) := by
                unfold Hid
                rw [HST.out]
                refine HO5.out.push HK5.out hgrow ?_
                rw [HM.out]
                exact hown7
              have hb7' : Hid (Below w2.heap.size w2 w7) := hb5'.out.grown hgrow hb5'.out.size (ownBlock_ge HOW.out)
              clear hown7 hgrow HO5 HK5 HS5 hb5' HOW HM
              go_wp2_with fail
              go_roundw
              case rel => exact ⟨j + 1, ws ++ [.slice a' k c'], by omega, by go_num, HO7, hb7'⟩
              case measure => simp [intOf]; omega
      · have d0 : (o.kind != 16) = true := by simp [h16]
        have hdk : decide (o.kind = 16) = false := by simp [h16]
        have hseen : L.seen (L.inn s) o = own := by unfold L.seen; rw [hdk, HOWN.out, Bool.false_or]
        rw [hseen, L.trim_kept h16] at HST
        clear hseen hdk
        have hg0 := HB5.out.at.c0
        simp only [Op11.put] at hg0
        cases own with
        | true =>
          rw [if_pos rfl] at HST
          obtain ⟨p0, p1, p2, p3, p4, p5, p6, p7, p8, p9, p10⟩ := HB5.out.at
          simp only [Op11.put] at p0 p1 p2 p3 p4 p5 p6 p7 p8 p9 p10
          have HOz : Hid (Ob w w5 w2.heap.size u8 (L.purgeTo us gs d l j) ws) := HO.out.below (by rw [HQs.out]; exact hB5.out)
          have hbz := hb5
          have HKz : Hid (Kx w w5 w2.heap.size (.slice ua uq uc) o.keep) := .inl HKS.out
          clear HO HB5 hb5 hB5 h16
          have HO5 := Lib.hid (HOz.out.below ((Below.refl _ w5).alloc (Nat.le_refl _) (.cells #[.int .i64 o.kind, .int .i64 o.level, .int .i64 o.ses, .int .i64 o.snap, .string (str o.bucket), .string (str o.key), .string (str o.val), .int .i64 o.label, .int .i64 o.to, .int .i64 o.n, .slice ua uq uc] 34)))
          have HK5 := Lib.hid ((HKz.out).below ((Below.refl _ w5).alloc (Nat.le_refl _) (.cells #[.int .i64 o.kind, .int .i64 o.level, .int .i64 o.ses, .int .i64 o.snap, .string (str o.bucket), .string (str o.key), .string (str o.val), .int .i64 o.label, .int .i64 o.to, .int .i64 o.n, .slice ua uq uc] 34)))
          have HS5 : Hid (Sl (w5.alloc (.cells #[.int .i64 o.kind, .int .i64 o.level, .int .i64 o.ses, .int .i64 o.snap, .string (str o.bucket), .string (str o.key), .string (str o.val), .int .i64 o.label, .int .i64 o.to, .int .i64 o.n, .slice ua uq uc] 34)) 11 1 (.slice (some ⟨w5.heap.size, 0, none⟩) 1 1) (opCells [o.put (.slice ua uq uc)])) := Sl.lit w5 34 11 1 #[.int .i64 o.kind, .int .i64 o.level, .int .i64 o.ses, .int .i64 o.snap, .string (str o.bucket), .string (str o.key), .string (str o.val), .int .i64 o.label, .int .i64 o.to, .int .i64 o.n, .slice ua uq uc] (0, 0) rfl (by decide)
          have hb5' : Hid (Below w2.heap.size w2 (w5.alloc (.cells #[.int .i64 o.kind, .int .i64 o.level, .int .i64 o.ses, .int .i64 o.snap, .string (str o.bucket), .string (str o.key), .string (str o.val), .int .i64 o.label, .int .i64 o.to, .int .i64 o.n, .slice ua uq uc] 34))) := hbz.out.alloc hbz.out.size _
          have hll := HBL.out j
          obtain ⟨m, hm⟩ : ∃ m, (L.purgeTo us gs d l j).length = m := ⟨_, rfl⟩
          have hown := HO5.out.own
          rw [hm] at hown hll
          have HOW := Lib.hid hown
          have HM := Lib.hid hm
          clear HOz hbz hown hm
          go_wp2_with (at_builtin; go_must (refine wpList_append_sl rfl _ _ 28 rfl w2.heap.size 34 _ 11 128 Tryd.underlying28 infoOp rfl (by decide) _ _ _ rfl HOW.out _ 1 (opCells [o.put (.slice ua uq uc)]) rfl HS5.out (op_one ⟨_, _, _, rfl⟩) (by unfold maxLen; omega) (by omega) hb5'.out.size ?_))
          intro v7 w7 hown7 hgrow hnn
          clear hnn
          have HO7 : Hid (Ob w w7 w2.heap.size v7 (L.purgeTo us gs d l (j + 1)) (ws ++ [.slice ua uq uc])) := by
            unfold Hid
            rw [HST.out]
            refine HO5.out.push HK5.out hgrow ?_
            rw [HM.out]
            exact hown7
          have hb7' : Hid (Below w2.heap.size w2 w7) := hb5'.out.grown hgrow hb5'.out.size (ownBlock_ge HOW.out)
          clear hown7 hgrow HO5 HK5 HS5 hb5' HOW HM
          go_wp2_with fail
          go_roundw
          case rel => exact ⟨j + 1, ws ++ [.slice ua uq uc], by omega, by go_num, HO7, hb7'⟩
          case measure => simp [intOf]; omega
        | false =>
          rw [if_neg (by decide), List.append_nil] at HST
          have HO6 : Hid (Ob w w5 w2.heap.size u8 (L.purgeTo us gs d l (j + 1)) ws) := by
            unfold Hid
            rw [HST.out]
            exact HO.out.below (by rw [HQs.out]; exact hB5.out)
          clear HO HB5 hB5 h16
          go_wp2_with fail
          go_roundw
          case rel => exact ⟨j + 1, ws, by omega, by go_num, HO6, hb5⟩
          case measure => simp [intOf]; omega
    · obtain rfl : j = n := by omega
      rw [HE.out] at HO
      go_wp2_with fail
      go_ret
      exact ⟨_, _, rfl, by rw [HDD.out]; exact HO.out.base hb2.out.size, hbr.out⟩
end Go.Proofs.YtljpfocmnppjgaaDoor
