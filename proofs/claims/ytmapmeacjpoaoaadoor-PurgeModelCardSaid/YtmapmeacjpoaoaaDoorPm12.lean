/- What the model's sees returns. append to a row of the call's own: the same block, or a new one. No program. What the reference's Union returns stays as it is, whatever happens to the blocks that the call found. -/
import Derived.Test.YtmapmeacjpoaoaaDoorPm11
namespace Go.Proofs.YtmapmeacjpoaoaaDoor
open Go Go.RowKit

theorem Mr.snAt {w : World} {B n : Nat} {vn vu vq vg : Value} {X : Mv} {m : St} (h : Mr w B n vn vu vq vg X m) {i : Nat} (hi : i < m.sn.length) : ∃ g c v us, X.ps[i]? = some (v, us) ∧ X.vp = .slice (some ⟨g, 0, none⟩) m.sn.length c ∧ Lv w v us m.sn[i].l ∧
    ∀ W, Below w.heap.size w W → W.cell? ⟨g, i * 4, none⟩ = some (.int .i64 m.sn[i].level) ∧ W.cell? ⟨g, i * 4 + 1, none⟩ = some (.int .i64 m.sn[i].n) ∧ W.cell? ⟨g, i * 4 + 2, none⟩ = some (.int .i64 m.sn[i].snap) ∧ W.cell? ⟨g, i * 4 + 3, none⟩ = some v := by
  have hp := h.b.lp
  have hz : (List.zipWith Snp4.put m.sn (X.ps.map (·.1))).length = m.sn.length := by simp [hp]
  obtain ⟨g, c, hv⟩ : ∃ g c, X.vp = .slice (some ⟨g, 0, none⟩) m.sn.length c := by
    rcases h.b.oP.2 with ⟨-, h0⟩ | ⟨g, c, cur, e, -⟩
    · omega
    · exact ⟨g, c, e⟩
  refine ⟨g, c, X.ps[i].1, X.ps[i].2, List.getElem?_eq_getElem _, hv, h.f.P i (by omega) hi, fun W hW => ?_⟩
  have ho := ownsRow.below h.b.oP hW
  rw [hv] at ho
  have key : ∀ j (hj : j < 4), W.cell? ⟨g, i * 4 + j, none⟩ = (Snp4.put m.sn[i] X.ps[i].1).cs[j]? := fun j hj => by
    rw [ho.cellAt (i * 4 + j) (by omega)]
    have := cells_at Snp4.cs 4 (fun _ => rfl) (List.zipWith Snp4.put m.sn (X.ps.map (·.1))) i (by omega) j hj
    unfold snpCells
    rw [this]
    simp
  exact ⟨key 0 (by decide), key 1 (by decide), key 2 (by decide), key 3 (by decide)⟩
namespace M
theorem find_hit {α : Type} {p : α → Bool} {l : List α} {i : Nat} (h : i < l.length) (h1 : p l[i] = true) (h2 : ∀ j (h : j < l.length), j < i → p l[j] = false) : l.find? p = some l[i] := by
  rw [List.find?_eq_some_iff_getElem]
  exact ⟨h1, i, h, rfl, fun j hj => by simp [h2 j (by omega) hj]⟩
end M

set_option maxHeartbeats 4000000 in
theorem sees_any (w0 w : World) (B n : Nat) (vn vu vq vg : Value) (X : Mv) (m : St) (o : Opr) (u : Value) (x : Nat) (h : Mr w0 B n vn vu vq vg X m) (hb : Below w0.heap.size w0 w) (hp : ∀ p ∈ m.sn, p.l.length = n) (hx : x < n) (hn : n ≤ 64) :
    Calls Tryd.prog 47 #[.pointer (some ⟨B, 0, none⟩), opv (o.put u), .int .i64 x] w fun e w' => ∃ v', e = .returned v' ∧ Es w0 v' (M.sees m o x) ∧ Below w.heap.size w w' := by
  have hE := Ent.box (h.below hb) o u
  obtain ⟨w1, hw1⟩ : ∃ w1, w.alloc (.cells (opc o u) 33) = w1 := ⟨_, rfl⟩
  obtain ⟨Qo, hQo⟩ : ∃ Qo, w.heap.size = Qo := ⟨_, rfl⟩
  rw [hw1, hQo] at hE
  have HE := Lib.hid hE
  have HM0 := Lib.hid h
  have HB0 := Lib.hid hb
  have HP := Lib.hid hp
  have hxn := hx
  have hx0 : (0 : Int) ≤ (x : Int) := by omega
  have hxI : (x : Int) < (n : Int) := by omega
  obtain ⟨ap, cp, hvp⟩ : ∃ a c, X.vp = .slice a m.sn.length c := by
    rcases h.b.oP.2 with ⟨e, h0⟩ | ⟨g, c, cur, e, -⟩
    · rw [h0]; exact ⟨_, _, e⟩
    · exact ⟨_, _, e⟩
  have hbig : m.sn.length ≤ 9223372036854775807 := by
    rcases h.b.oP.2 with ⟨e, h0⟩ | ⟨g, c, cur, e, -, -, h1, h2, -⟩
    · omega
    · unfold maxLen at h2; omega
  obtain ⟨o0, o1, o2, o3, o4, o5, o6, o7, o8, o9, kk⟩ := o
  have HS0 : Hid (o3 = 0 → M.sees m ⟨o0, o1, o2, o3, o4, o5, o6, o7, o8, o9, kk⟩ x = M.seesOwn m ⟨o0, o1, o2, o3, o4, o5, o6, o7, o8, o9, kk⟩ x) := fun h => by unfold M.sees; simp [h]
  have HS1 : Hid (o3 ≠ 0 → (∀ j (h : j < m.sn.length), M.isP ⟨o0, o1, o2, o3, o4, o5, o6, o7, o8, o9, kk⟩ m.sn[j] = false) → M.sees m ⟨o0, o1, o2, o3, o4, o5, o6, o7, o8, o9, kk⟩ x = M.seesOwn m ⟨o0, o1, o2, o3, o4, o5, o6, o7, o8, o9, kk⟩ x) := fun h h2 => by
    have : m.sn.find? (M.isP ⟨o0, o1, o2, o3, o4, o5, o6, o7, o8, o9, kk⟩) = none := by
      rw [List.find?_eq_none]
      intro p hp
      obtain ⟨j, hj, rfl⟩ := List.mem_iff_getElem.1 hp
      simp [h2 j hj]
    unfold M.sees
    simp [h, this]
  have HS2 : Hid (∀ i (h : i < m.sn.length), o3 ≠ 0 → M.isP ⟨o0, o1, o2, o3, o4, o5, o6, o7, o8, o9, kk⟩ m.sn[i] = true → (∀ j (h : j < m.sn.length), j < i → M.isP ⟨o0, o1, o2, o3, o4, o5, o6, o7, o8, o9, kk⟩ m.sn[j] = false) → M.sees m ⟨o0, o1, o2, o3, o4, o5, o6, o7, o8, o9, kk⟩ x = m.sn[i].l.getD x []) := fun i h h0 h1 h2 => by
    have := M.find_hit (p := M.isP ⟨o0, o1, o2, o3, o4, o5, o6, o7, o8, o9, kk⟩) h h1 h2
    unfold M.sees
    simp [h0, this]
  obtain ⟨N, hN⟩ : ∃ N, m.sn.length = N := ⟨_, rfl⟩
  have HN := Lib.hid hN
  rw [hN] at hvp hbig
  have HVP := Lib.hid hvp
  have hb0 : Hid (Below w1.heap.size w1 w1) := Below.refl _ _
  simp only [Op11.put, opc] at hw1 ⊢
  clear h hE hp hvp hN hx hn hb
  go_enter Tryd.func47, Tryd.ntmps47
  go_wp2_with fail
  clear hw1 hQo
  go_loopw [7] (fun i wr => ∃ k : Nat, k ≤ N ∧ i = .int .i64 k ∧ Hid (∀ j (h : j < m.sn.length), j < k → M.isP ⟨o0, o1, o2, o3, o4, o5, o6, o7, o8, o9, kk⟩ m.sn[j] = false) ∧ Hid (Below w1.heap.size w1 wr)) (fun i _ => N - (intOf i).toNat)
  case atStart => exact ⟨0, by omega, rfl, fun j h h2 => by omega, hb0⟩
  case round =>
    clear hb0
    obtain ⟨k, hk, rfl, HR, hbr⟩ := hrel
    have q9 := ((HE.out.m.b.below hbr.out).cells).c9
    rw [HVP.out] at q9
    obtain ⟨-, -, -, p3, -⟩ := HE.out.at hbr.out
    simp only [] at p3
    by_cases hkn : k < N
    · have hkI : (k : Int) < (N : Int) := by omega
      have hk0 : (0 : Int) ≤ (k : Int) := by omega
      by_cases h3 : o3 = 0
      · have d3 : (o3 != 0) = false := by simp [h3]
        have HSW := Lib.hid (HS0.out h3)
        clear HS0 HS1 HS2 HR h3
        go_wp2_with fail
        clear q9 p3
        have hh := (HE.out.m.b.below hbr.out).cells
        have q6 := hh.c6
        have qh := (HE.out.m.below hbr.out).hasAt hxn
        obtain ⟨-, p1, p2, -⟩ := HE.out.at hbr.out
        simp only [] at p1 p2
        clear hh
        obtain ⟨hv, hhv⟩ : ∃ y, m.has.getD x 0 = y := ⟨_, rfl⟩
        rw [hhv] at qh
        cases e1 : ((x : Int) == o1) with
        | false =>
          have HSW : Hid (M.sees m ⟨o0, o1, o2, o3, o4, o5, o6, o7, o8, o9, kk⟩ x = m.L.getD x []) := by unfold Hid; rw [HSW.out]; unfold M.seesOwn; simp only [e1]; rfl
          have d1 : decide ((x : Int) = o1) = false := by simpa using e1
          clear hhv
          go_wp2_with fail
          go_quiet (fail)
          have hbq := below_next hbr.out (below_drewN wr nq)
          generalize wr.drewN nq = wq at *
          clear p1 p2 q6 qh
          obtain ⟨v9, e9, hv9, -⟩ := (HE.out.m.below hbq).listL hxn
          obtain ⟨v8, e8, -, hes⟩ := HM0.out.listL hxn
          obtain rfl : v9 = v8 := Option.some.inj (e9.symm.trans e8)
          replace hes : Hid (Es w0 v9 (M.sees m ⟨o0, o1, o2, o3, o4, o5, o6, o7, o8, o9, kk⟩ x)) := by unfold Hid; rw [HSW.out]; exact hes
          have hh := (HE.out.m.b.below hbq).cells
          have q := hh.c4
          have hbf := Lib.hid (below_next HE.out.b hbq)
          clear hh hbq hbr HSW e8 e9
          go_wp2_with fail
          go_ret
          exact ⟨_, rfl, hes.out, hbf.out⟩
        | true =>
          have d1 : decide ((x : Int) = o1) = true := by simpa using e1
          cases e2 : (hv == o2) with
          | false =>
            have HSW : Hid (M.sees m ⟨o0, o1, o2, o3, o4, o5, o6, o7, o8, o9, kk⟩ x = m.L.getD x []) := by unfold Hid; rw [HSW.out]; unfold M.seesOwn; simp only [e1, hhv, e2]; rfl
            have d2 : decide (hv = o2) = false := by simpa using e2
            clear hhv
            go_wp2_with fail
            go_quiet (fail)
            have hbq := below_next hbr.out (below_drewN wr nq)
            generalize wr.drewN nq = wq at *
            clear p1 p2 q6 qh
            obtain ⟨v9, e9, hv9, -⟩ := (HE.out.m.below hbq).listL hxn
            obtain ⟨v8, e8, -, hes⟩ := HM0.out.listL hxn
            obtain rfl : v9 = v8 := Option.some.inj (e9.symm.trans e8)
            replace hes : Hid (Es w0 v9 (M.sees m ⟨o0, o1, o2, o3, o4, o5, o6, o7, o8, o9, kk⟩ x)) := by unfold Hid; rw [HSW.out]; exact hes
            have hh := (HE.out.m.b.below hbq).cells
            have q := hh.c4
            have hbf := Lib.hid (below_next HE.out.b hbq)
            clear hh hbq hbr HSW e8 e9
            go_wp2_with fail
            go_ret
            exact ⟨_, rfl, hes.out, hbf.out⟩
          | true =>
            have HSW : Hid (M.sees m ⟨o0, o1, o2, o3, o4, o5, o6, o7, o8, o9, kk⟩ x = m.dr.getD x []) := by unfold Hid; rw [HSW.out]; unfold M.seesOwn; simp only [e1, hhv, e2]; rfl
            have d2 : decide (hv = o2) = true := by simpa using e2
            clear hhv
            go_wp2_with fail
            go_quiet (fail)
            have hbq := below_next hbr.out (below_drewN wr nq)
            generalize wr.drewN nq = wq at *
            clear p1 p2 q6 qh
            obtain ⟨v9, e9, hv9, -⟩ := (HE.out.m.below hbq).listD hxn
            obtain ⟨v8, e8, -, hes⟩ := HM0.out.listD hxn
            obtain rfl : v9 = v8 := Option.some.inj (e9.symm.trans e8)
            replace hes : Hid (Es w0 v9 (M.sees m ⟨o0, o1, o2, o3, o4, o5, o6, o7, o8, o9, kk⟩ x)) := by unfold Hid; rw [HSW.out]; exact hes
            have hh := (HE.out.m.b.below hbq).cells
            have q := hh.c7
            have hbf := Lib.hid (below_next HE.out.b hbq)
            clear hh hbq hbr HSW e8 e9
            go_wp2_with fail
            go_ret
            exact ⟨_, rfl, hes.out, hbf.out⟩
      · have d3 : (o3 != 0) = true := by simp [h3]
        obtain ⟨g, c, v, us, e9, hv, -, hcc⟩ := (HE.out.m.below hbr.out).snAt (i := k) (by rw [HN.out]; exact hkn)
        obtain ⟨-, -, v8, us8, e8, -, hlv, -⟩ := HM0.out.snAt (i := k) (by rw [HN.out]; exact hkn)
        obtain ⟨rfl, rfl⟩ : v = v8 ∧ us = us8 := by simpa using (Option.some.inj (e9.symm.trans e8))
        rw [HVP.out] at hv
        obtain ⟨rfl, -, rfl⟩ := Value.slice.inj hv
        have HJ : Hid (M.isP ⟨o0, o1, o2, o3, o4, o5, o6, o7, o8, o9, kk⟩ (m.sn[k]'(by rw [HN.out]; exact hkn)) = false → ∀ j (h : j < m.sn.length), j < k + 1 → M.isP ⟨o0, o1, o2, o3, o4, o5, o6, o7, o8, o9, kk⟩ m.sn[j] = false) := fun h j hj hjk => by
          rcases Nat.lt_or_ge j k with h2 | h2
          · exact HR.out j hj h2
          · (obtain rfl : j = k := by omega); exact h
        have HI : Hid (M.isP ⟨o0, o1, o2, o3, o4, o5, o6, o7, o8, o9, kk⟩ (m.sn[k]'(by rw [HN.out]; exact hkn)) = true → M.sees m ⟨o0, o1, o2, o3, o4, o5, o6, o7, o8, o9, kk⟩ x = (m.sn[k]'(by rw [HN.out]; exact hkn)).l.getD x []) := fun h => HS2.out k (by rw [HN.out]; exact hkn) h3 h HR.out
        have hln : (m.sn[k]'(by rw [HN.out]; exact hkn)).l.length = n := HP.out _ (List.getElem_mem _)
        obtain ⟨y, hy⟩ : ∃ y, (m.sn[k]'(by rw [HN.out]; exact hkn)) = y := ⟨_, rfl⟩
        rw [hy] at hlv hcc HJ HI hln
        obtain ⟨y0, y1, y2, y3⟩ := y
        simp only [] at hlv hcc HJ HI hln
        obtain ⟨g0, g1, g2, g3⟩ := hcc wr (Below.refl _ _)
        obtain ⟨-, p1, p2, -⟩ := HE.out.at hbr.out
        simp only [] at p1 p2
        have HCC := Lib.hid hcc
        have HLV := Lib.hid hlv
        obtain ⟨av, cv, rfl, -⟩ := hlv.sl.shape
        rw [hln] at g3 HCC HLV
        have HLN := Lib.hid hln
        clear hy hcc hlv hv hln e8 e9 HR HS0 HS1 HS2 h3
        cases e1 : (y0 == o1) with
        | false =>
          have d1 : decide (y0 = o1) = false := by simpa using e1
          have hfin := Lib.hid (HJ.out (by unfold M.isP; simp only [e1]; rfl))
          clear HI HJ
          go_wp2_with fail
          go_quiet (fail)
          clear p1 p2 p3 g0 g1 g2 g3 q9
          go_wp2_with fail
          go_roundw
          case rel => exact ⟨k + 1, by omega, by go_num, hfin, below_next hbr.out (below_drewN _ _)⟩
          case measure => simp [intOf]; omega
        | true =>
          have d1 : decide (y0 = o1) = true := by simpa using e1
          cases e2 : (y1 == o2) with
          | false =>
            have d2 : decide (y1 = o2) = false := by simpa using e2
            have hfin := Lib.hid (HJ.out (by unfold M.isP; simp only [e1, e2]; rfl))
            clear HI HJ
            go_wp2_with fail
            go_quiet (fail)
            clear p1 p2 p3 g0 g1 g2 g3 q9
            go_wp2_with fail
            go_roundw
            case rel => exact ⟨k + 1, by omega, by go_num, hfin, below_next hbr.out (below_drewN _ _)⟩
            case measure => simp [intOf]; omega
          | true =>
            have d2 : decide (y1 = o2) = true := by simpa using e2
            cases e3 : (y2 == o3) with
            | false =>
              have d4 : decide (y2 = o3) = false := by simpa using e3
              have hfin := Lib.hid (HJ.out (by unfold M.isP; simp only [e1, e2, e3]; rfl))
              clear HI HJ
              go_wp2_with fail
              go_quiet (fail)
              clear p1 p2 p3 g0 g1 g2 g3 q9
              go_wp2_with fail
              go_roundw
              case rel => exact ⟨k + 1, by omega, by go_num, hfin, below_next hbr.out (below_drewN _ _)⟩
              case measure => simp [intOf]; omega
            | true =>
              have d4 : decide (y2 = o3) = true := by simpa using e3
              have hfin := Lib.hid (HI.out (by unfold M.isP; simp only [e1, e2, e3]; rfl))
              clear HI HJ
              go_wp2_with fail
              go_quiet (fail)
              clear p1 p2 p3 g0 g1 g2 g3 q9
              have hbq := below_next hbr.out (below_drewN wr nq)
              have hcq := HCC.out _ (below_drewN wr nq)
              generalize wr.drewN nq = wq at *
              obtain ⟨-, -, -, g3⟩ := hcq
              have q9 := ((HE.out.m.b.below hbq).cells).c9
              rw [HVP.out] at q9
              have hul : x < us.length := by rw [HLV.out.len, HLN.out]; exact hxn
              obtain ⟨b2, o2', rfl, hat⟩ := (HLV.out.below (below_next HB0.out (below_next HE.out.b hbq))).sl.at (j := x) hul
              have hax := hat x hul
              have hes := HLV.out.each x hul (by rw [HLN.out]; exact hxn)
              replace hes : Hid (Es w0 (us[x]'hul) (M.sees m ⟨o0, o1, o2, o3, o4, o5, o6, o7, o8, o9, kk⟩ x)) := by
                unfold Hid
                rw [hfin.out, List.getD_eq_getElem?_getD, List.getElem?_eq_getElem (by rw [HLN.out]; exact hxn), Option.getD_some]
                exact hes
              obtain ⟨v9, hv9⟩ : ∃ v9, us[x]'hul = v9 := ⟨_, rfl⟩
              rw [hv9] at hax hes
              have hbf := Lib.hid (below_next HE.out.b hbq)
              clear hat hul hbq hbr hfin HLV HLN HCC hv9
              go_wp2_with fail
              go_ret
              exact ⟨_, rfl, hes.out, hbf.out⟩
    · have hkI : ¬ ((k : Int) < (N : Int)) := by omega
      have HSW : Hid (M.sees m ⟨o0, o1, o2, o3, o4, o5, o6, o7, o8, o9, kk⟩ x = M.seesOwn m ⟨o0, o1, o2, o3, o4, o5, o6, o7, o8, o9, kk⟩ x) := by
        unfold Hid
        by_cases h3 : o3 = 0
        · exact HS0.out h3
        · exact HS1.out h3 fun j hj => HR.out j hj (by rw [HN.out] at hj; omega)
      clear HS0 HS1 HS2 HR
      go_wp2_with fail
      clear q9 p3
      have hh := (HE.out.m.b.below hbr.out).cells
      have q6 := hh.c6
      have qh := (HE.out.m.below hbr.out).hasAt hxn
      obtain ⟨-, p1, p2, -⟩ := HE.out.at hbr.out
      simp only [] at p1 p2
      clear hh
      obtain ⟨hv, hhv⟩ : ∃ y, m.has.getD x 0 = y := ⟨_, rfl⟩
      rw [hhv] at qh
      cases e1 : ((x : Int) == o1) with
      | false =>
        have HSW : Hid (M.sees m ⟨o0, o1, o2, o3, o4, o5, o6, o7, o8, o9, kk⟩ x = m.L.getD x []) := by unfold Hid; rw [HSW.out]; unfold M.seesOwn; simp only [e1]; rfl
        have d1 : decide ((x : Int) = o1) = false := by simpa using e1
        clear hhv
        go_wp2_with fail
        go_quiet (fail)
        have hbq := below_next hbr.out (below_drewN wr nq)
        generalize wr.drewN nq = wq at *
        clear p1 p2 q6 qh
        obtain ⟨v9, e9, hv9, -⟩ := (HE.out.m.below hbq).listL hxn
        obtain ⟨v8, e8, -, hes⟩ := HM0.out.listL hxn
        obtain rfl : v9 = v8 := Option.some.inj (e9.symm.trans e8)
        replace hes : Hid (Es w0 v9 (M.sees m ⟨o0, o1, o2, o3, o4, o5, o6, o7, o8, o9, kk⟩ x)) := by unfold Hid; rw [HSW.out]; exact hes
        have hh := (HE.out.m.b.below hbq).cells
        have q := hh.c4
        have hbf := Lib.hid (below_next HE.out.b hbq)
        clear hh hbq hbr HSW e8 e9
        go_wp2_with fail
        go_ret
        exact ⟨_, rfl, hes.out, hbf.out⟩
      | true =>
        have d1 : decide ((x : Int) = o1) = true := by simpa using e1
        cases e2 : (hv == o2) with
        | false =>
          have HSW : Hid (M.sees m ⟨o0, o1, o2, o3, o4, o5, o6, o7, o8, o9, kk⟩ x = m.L.getD x []) := by unfold Hid; rw [HSW.out]; unfold M.seesOwn; simp only [e1, hhv, e2]; rfl
          have d2 : decide (hv = o2) = false := by simpa using e2
          clear hhv
          go_wp2_with fail
          go_quiet (fail)
          have hbq := below_next hbr.out (below_drewN wr nq)
          generalize wr.drewN nq = wq at *
          clear p1 p2 q6 qh
          obtain ⟨v9, e9, hv9, -⟩ := (HE.out.m.below hbq).listL hxn
          obtain ⟨v8, e8, -, hes⟩ := HM0.out.listL hxn
          obtain rfl : v9 = v8 := Option.some.inj (e9.symm.trans e8)
          replace hes : Hid (Es w0 v9 (M.sees m ⟨o0, o1, o2, o3, o4, o5, o6, o7, o8, o9, kk⟩ x)) := by unfold Hid; rw [HSW.out]; exact hes
          have hh := (HE.out.m.b.below hbq).cells
          have q := hh.c4
          have hbf := Lib.hid (below_next HE.out.b hbq)
          clear hh hbq hbr HSW e8 e9
          go_wp2_with fail
          go_ret
          exact ⟨_, rfl, hes.out, hbf.out⟩
        | true =>
          have HSW : Hid (M.sees m ⟨o0, o1, o2, o3, o4, o5, o6, o7, o8, o9, kk⟩ x = m.dr.getD x []) := by unfold Hid; rw [HSW.out]; unfold M.seesOwn; simp only [e1, hhv, e2]; rfl
          have d2 : decide (hv = o2) = true := by simpa using e2
          clear hhv
          go_wp2_with fail
          go_quiet (fail)
          have hbq := below_next hbr.out (below_drewN wr nq)
          generalize wr.drewN nq = wq at *
          clear p1 p2 q6 qh
          obtain ⟨v9, e9, hv9, -⟩ := (HE.out.m.below hbq).listD hxn
          obtain ⟨v8, e8, -, hes⟩ := HM0.out.listD hxn
          obtain rfl : v9 = v8 := Option.some.inj (e9.symm.trans e8)
          replace hes : Hid (Es w0 v9 (M.sees m ⟨o0, o1, o2, o3, o4, o5, o6, o7, o8, o9, kk⟩ x)) := by unfold Hid; rw [HSW.out]; exact hes
          have hh := (HE.out.m.b.below hbq).cells
          have q := hh.c7
          have hbf := Lib.hid (below_next HE.out.b hbq)
          clear hh hbq hbr HSW e8 e9
          go_wp2_with fail
          go_ret
          exact ⟨_, rfl, hes.out, hbf.out⟩
end Go.Proofs.YtmapmeacjpoaoaaDoor
namespace Go.Proofs.YtmapmeacjpoaoaaDoor
open Go Go.RowKit

theorem run_append_st {P : Program} {w : World} (base : Nat) (t ty e : TypeId) (i : TypeInfo) (z : Value) (size bytes : Nat) (ht : P.underlying t = some (.slice e)) (hi : P.info? e = some i) (hz : i.zero = some z)
    (hsize : i.size = size) (hby : i.bytes = bytes) (hzs : z.cells.size = size) (hsz : 0 < size)
    (v : Value) (n : Nat) (xs : List Value) (hown : w.ownsRow base e size v n xs)
    (a : Addr) (m c : Nat) (news : List Value) (hl : news.length = m * size) (hnews : ∀ j u, news[j]? = some u → w.cell? (a.add j) = some u) (h1 : ∀ u ∈ news, u.oneCell' = true)
    (h63 : n + m ≤ maxLen) (hbytes : (n + m) * bytes ≤ 140737488355328) (hbase : base ≤ w.heap.size) :
    ∃ v' w', (Builtin.append_ #[t, t] ty #[v, .slice (some a) m c]).run P w = .ok v' w' ∧ w'.ownsRow base e size v' (n + m) (xs ++ news) ∧ w.grownBy w' v.ownBlock ∧
      (v'.ownBlock = v.ownBlock ∨ ∀ k, v'.ownBlock = some k → w.heap.size ≤ k) := by
  rcases hown.2 with ⟨rfl, rfl⟩ | ⟨g, cap, cur, rfl, hg, hh, h2, h3, h4, h5⟩
  · have hx : xs = [] := List.eq_nil_of_length_eq_zero (by have := hown.1; simpa using this)
    subst hx
    obtain ⟨v', w', hr, ho, hgr, -⟩ := run_append_own (P := P) w w.heap.size t ty e i z size bytes ht hi hz hsize hby hzs hsz (.slice none 0 0) 0 [] (World.ownsRow_nil w _ e size) a m c news hl hnews h1 h63 hbytes (Nat.le_refl _)
    exact ⟨v', w', hr, ownsRow.base ho hbase, hgr, .inr (ownBlock_ge ho)⟩
  · by_cases hc : n + m ≤ cap
    · obtain ⟨w', hr, ho, hgr⟩ := run_append_fits (P := P) w base t ty e i size ht hi hsize g n cap xs hown a m c news hl hnews h1 hc
      exact ⟨_, w', hr, ho, hgr, .inl rfl⟩
    · obtain ⟨v', w', hr, ho, hgr⟩ := run_append_arg_grows (P := P) w t ty e i z size bytes ht hi hz hsize hby hzs hsz ⟨g, 0, none⟩ n cap xs hown.1 (fun j u hj => by
        obtain ⟨hlt, rfl⟩ := List.getElem?_eq_some_iff.1 hj
        have := World.ownsRow.cells hown (g := g) rfl j xs[j] (by simp [hlt])
        simpa [Addr.add_lit] using this) a m c news hl hnews (by omega) h63 hbytes
      exact ⟨v', w', hr, ownsRow.base ho hbase, ⟨hgr.os, hgr.tape, hgr.output, hgr.size, fun k hk _ => hgr.block k hk (by simp)⟩, .inr (ownBlock_ge ho)⟩
/-- 'append(own, src...)': the same block, or a new one. -/
theorem wpList_append_st {P : Program} {w : World} {ops : Array Oper} {rest : List Oper} {o : Oper} {a : Act} {Q : Exit → Act → World → Prop} (hgd : o.guard = none) (s x : Operand) (t : TypeId)
    (ho : o.op = .call { callee := .builtin .append, args := #[s, x], argTypes := #[t, t] })
    (base : Nat) (e : TypeId) (z : Value) (size bytes : Nat) (ht : P.underlying t = some (.slice e)) (hinfo : (P.info? e).map (fun i => (i.zero, i.size, i.bytes)) = some (some z, size, bytes))
    (hzs : z.cells.size = size) (hsz : 0 < size)
    (v : Value) (n : Nat) (xs : List Value) (hs : a.eval s = v) (hown : w.ownsRow base e size v n xs)
    (u : Value) (m : Nat) (news : List Value) (hx : a.eval x = u) (hsrc : Sl w size m u news) (h1 : ∀ u ∈ news, u.oneCell' = true)
    (h63 : n + m ≤ maxLen) (hbytes : (n + m) * bytes ≤ 140737488355328) (hbase : base ≤ w.heap.size)
    (h : ∀ v' w', w'.ownsRow base e size v' (n + m) (xs ++ news) → w.grownBy w' v.ownBlock → (v'.ownBlock = v.ownBlock ∨ ∀ k, v'.ownBlock = some k → w.heap.size ≤ k) → wpList P ops Q rest (a.put o.dst v') w') :
    wpList P ops Q (o :: rest) a w := by
  obtain ⟨i, hi, hz, h4, h5⟩ := info_parts hinfo
  obtain ⟨h0, ao, cap, rfl, hmc, hcm, hnone, hc⟩ := hsrc
  cases ao with
  | none =>
    have hc0 := hnone rfl
    subst hc0
    obtain rfl : m = 0 := by omega
    have hnil : news = [] := List.eq_nil_of_length_eq_zero (by rw [h0]; simp)
    subst hnil
    refine wpList_append_own_none hgd s x t ho base e i size ht hi v n xs hs hown hx ?_
    exact h v w (by simpa using hown) (World.grownBy.refl _ _) (.inl rfl)
  | some ad =>
    refine wpList_plain hgd fun K hK' => ?_
    obtain ⟨v', w', hrun, r1, r2, r3⟩ := run_append_st (P := P) (w := w) base t o.type e i z size bytes ht hi hz h4 h5 hzs hsz v n xs hown ad m cap news h0 (fun j y hj => by
      obtain ⟨hlt, rfl⟩ := List.getElem?_eq_some_iff.1 hj
      obtain ⟨b, off, e1, e2⟩ := hc j hlt
      obtain rfl := Option.some.inj e1
      rw [Addr.add_lit]
      exact e2) h1 h63 hbytes hbase
    unfold Oper.wp
    simp [execOp, ho, resolve, invoke, builtin, hs, hx, hrun, Result.andThen]
    exact hK' _ _ (h _ _ r1 r2 r3)
/-- The same as a loud step of a drawn region. -/
theorem hOper_append_st {P : Program} {R : World → World → Prop} {w : World} {o : Oper} {a : Act} {K : Act → World → Prop} (s x : Operand) (t : TypeId)
    (ho : o.op = .call { callee := .builtin .append, args := #[s, x], argTypes := #[t, t] })
    (base : Nat) (e : TypeId) (z : Value) (size bytes : Nat) (ht : P.underlying t = some (.slice e)) (hinfo : (P.info? e).map (fun i => (i.zero, i.size, i.bytes)) = some (some z, size, bytes))
    (hzs : z.cells.size = size) (hsz : 0 < size)
    (v : Value) (n : Nat) (xs : List Value) (hs : a.eval s = v) (hown : w.ownsRow base e size v n xs)
    (u : Value) (m : Nat) (news : List Value) (hx : a.eval x = u) (hsrc : Sl w size m u news) (h1 : ∀ u ∈ news, u.oneCell' = true)
    (h63 : n + m ≤ maxLen) (hbytes : (n + m) * bytes ≤ 140737488355328) (hbase : base ≤ w.heap.size)
    (h : ∀ v' w', w'.ownsRow base e size v' (n + m) (xs ++ news) → w.grownBy w' v.ownBlock → (v'.ownBlock = v.ownBlock ∨ ∀ k, v'.ownBlock = some k → w.heap.size ≤ k) → R w w' ∧ K (a.put o.dst v') w') : Two.hOper R P o a w K := by
  obtain ⟨i, hi, hz, h4, h5⟩ := info_parts hinfo
  obtain ⟨h0, ao, cap, rfl, hmc, hcm, hnone, hc⟩ := hsrc
  unfold Two.hOper
  cases ao with
  | none =>
    have hc0 := hnone rfl
    subst hc0
    obtain rfl : m = 0 := by omega
    have hnil : news = [] := List.eq_nil_of_length_eq_zero (by rw [h0]; simp)
    subst hnil
    have hrun := run_append_owned_none (P := P) (w := w) base t o.type e i size ht hi v n xs hown
    simp only [execOp, ho, resolve, invoke, builtin, hs, hx, hrun, Result.andThen, Sem.run_bind, Sem.run_pure, List.map_toArray, List.map_cons, List.map_nil, yieldsTo]
    exact h v w (by simpa using hown) (World.grownBy.refl _ _) (.inl rfl)
  | some ad =>
    obtain ⟨v', w', hr, h2, h3, h6⟩ := run_append_st (P := P) (w := w) base t o.type e i z size bytes ht hi hz h4 h5 hzs hsz v n xs hown ad m cap news h0 (fun j y hj => by
      obtain ⟨hlt, rfl⟩ := List.getElem?_eq_some_iff.1 hj
      obtain ⟨b, off, e1, e2⟩ := hc j hlt
      obtain rfl := Option.some.inj e1
      rw [Addr.add_lit]
      exact e2) h1 h63 hbytes hbase
    simp only [execOp, ho, resolve, invoke, builtin, hs, hx, hr, Result.andThen, Sem.run_bind, Sem.run_pure, List.map_toArray, List.map_cons, List.map_nil, yieldsTo]
    exact h v' w' h2 h3 h6

/-- What is owned stays, where another block alone is written. -/
theorem own_grown {w w' : World} {row : Option Nat} {base t sz n : Nat} {u : Value} {cs : List Value} (h : w.ownsRow base t sz u n cs) (hg : w.grownBy w' row) (hne : ∀ k, u.ownBlock = some k → row ≠ some k) : w'.ownsRow base t sz u n cs := by
  refine ⟨h.1, ?_⟩
  rcases h.2 with h2 | ⟨g, cap, cur, rfl, hb, hh, r⟩
  · exact .inl h2
  · exact .inr ⟨g, cap, cur, rfl, hb, by rw [hg.block g (Array.getElem?_eq_some_iff.1 hh).1 (fun e => hne g rfl e.symm)]; exact hh, r⟩
theorem own_type {w : World} {base t sz n base2 t2 sz2 n2 : Nat} {u v : Value} {cs ds : List Value} (h : w.ownsRow base t sz u n cs) (h2 : w.ownsRow base2 t2 sz2 v n2 ds) (ht : t ≠ t2) : ∀ k, u.ownBlock = some k → v.ownBlock ≠ some k := by
  intro k hk hk2
  rcases h.2 with ⟨rfl, -⟩ | ⟨g, cap, cur, rfl, -, hh, -⟩
  · simp [Value.ownBlock] at hk
  · rcases h2.2 with ⟨rfl, -⟩ | ⟨g2, cap2, cur2, rfl, -, hh2, -⟩
    · simp [Value.ownBlock] at hk2
    · have e1 : g = k := by simpa [Value.ownBlock] using hk
      have e2 : g2 = k := by simpa [Value.ownBlock] using hk2
      rw [e1] at hh
      rw [e2, hh] at hh2
      simp only [Option.some.injEq, Obj.cells.injEq] at hh2
      exact ht hh2.2.1
theorem own_lt {w : World} {base t sz n : Nat} {u : Value} {cs : List Value} (h : w.ownsRow base t sz u n cs) : ∀ k, u.ownBlock = some k → k < w.heap.size := fun k hk => (h.lt k hk).2
theorem ex_grown {G : Nat → Prop} {w w' : World} {row : Option Nat} (h : w.grownBy w' row) (hr : ∀ k, row = some k → G k) : Ex G w w' := ⟨h.os, h.tape, h.output, h.size, fun k hk hg => h.block k hk fun e => hg (hr k e.symm)⟩

/-- The rows that a reading has found, in the call's own memory: those by labels, those of the key, those of this label. -/
structure RS (w : World) (G : Nat) (v6 v7 v10 : Value) (us : List Value) (rows : List (List Rw)) (all own : List Rw) : Prop where
  len : us.length = rows.length
  o6 : w.ownsRow G 40 1 v6 rows.length us
  o7 : w.ownsRow G 100 3 v7 all.length (RW.cells all)
  o10 : w.ownsRow G 100 3 v10 own.length (RW.cells own)
  fr : Fz (fun k => v6.ownBlock = some k ∨ v7.ownBlock = some k ∨ v10.ownBlock = some k) w (fun W => ∀ i (h : i < us.length) (h2 : i < rows.length), Rs W us[i] rows[i])
  ne : ∀ k, v7.ownBlock = some k → v10.ownBlock ≠ some k
theorem RS.nil (w : World) (G : Nat) : RS w G (.slice none 0 0) (.slice none 0 0) (.slice none 0 0) [] [] [] [] :=
  ⟨rfl, World.ownsRow_nil _ _ _ _, World.ownsRow_nil _ _ _ _, World.ownsRow_nil _ _ _ _, fun _ _ i h => by simp at h, fun k h => by simp [Value.ownBlock] at h⟩
theorem RS.below {w w' : World} {G : Nat} {v6 v7 v10 : Value} {us : List Value} {rows : List (List Rw)} {all own : List Rw} (h : RS w G v6 v7 v10 us rows all own) (hb : Below w.heap.size w w') : RS w' G v6 v7 v10 us rows all own :=
  ⟨h.len, ownsRow.below h.o6 hb, ownsRow.below h.o7 hb, ownsRow.below h.o10 hb, h.fr.below hb, h.ne⟩
theorem row_ne : (40 : TypeId) ≠ 100 := by decide
theorem RS.app7 {w w' : World} {G : Nat} {v6 v7 v7' v10 : Value} {us : List Value} {rows : List (List Rw)} {all own new : List Rw} (h : RS w G v6 v7 v10 us rows all own) (hg : w.grownBy w' v7.ownBlock)
    (ho : w'.ownsRow G 100 3 v7' (all ++ new).length (RW.cells (all ++ new))) (hs : v7'.ownBlock = v7.ownBlock ∨ ∀ k, v7'.ownBlock = some k → w.heap.size ≤ k) : RS w' G v6 v7' v10 us rows (all ++ new) own := by
  refine ⟨h.len, own_grown h.o6 hg (own_type h.o6 h.o7 row_ne), ho, own_grown h.o10 hg (fun k hk e => h.ne k e hk), ?_, ?_⟩
  · refine h.fr.wide (ex_grown hg fun k hk => .inr (.inl hk)) fun k hk hh => ?_
    rcases hh with hh | hh | hh
    · exact .inl hh
    · rcases hs with hs | hs
      · exact .inr (.inl (hs ▸ hh))
      · have := hs k hh; omega
    · exact .inr (.inr hh)
  · intro k hk hk2
    rcases hs with hs | hs
    · exact h.ne k (hs ▸ hk) hk2
    · have := hs k hk
      have := own_lt h.o10 k hk2
      omega
theorem RS.app10 {w w' : World} {G : Nat} {v6 v7 v10 v10' : Value} {us : List Value} {rows : List (List Rw)} {all own new : List Rw} (h : RS w G v6 v7 v10 us rows all own) (hg : w.grownBy w' v10.ownBlock)
    (ho : w'.ownsRow G 100 3 v10' (own ++ new).length (RW.cells (own ++ new))) (hs : v10'.ownBlock = v10.ownBlock ∨ ∀ k, v10'.ownBlock = some k → w.heap.size ≤ k) : RS w' G v6 v7 v10' us rows all (own ++ new) := by
  refine ⟨h.len, own_grown h.o6 hg (own_type h.o6 h.o10 row_ne), own_grown h.o7 hg (fun k hk e => h.ne k hk e), ho, ?_, ?_⟩
  · refine h.fr.wide (ex_grown hg fun k hk => .inr (.inr hk)) fun k hk hh => ?_
    rcases hh with hh | hh | hh
    · exact .inl hh
    · exact .inr (.inl hh)
    · rcases hs with hs | hs
      · exact .inr (.inr (hs ▸ hh))
      · have := hs k hh; omega
  · intro k hk hk2
    rcases hs with hs | hs
    · exact h.ne k hk (hs ▸ hk2)
    · have := hs k hk2
      have := own_lt h.o7 k hk
      omega
theorem RS.app6 {w w' : World} {G : Nat} {v6 v6' v7 v10 : Value} {us : List Value} {rows : List (List Rw)} {all own : List Rw} (h : RS w G v6 v7 v10 us rows all own) (hg : w.grownBy w' v6.ownBlock)
    (ho : w'.ownsRow G 40 1 v6' (rows.length + 1) (us ++ [v10])) (hs : v6'.ownBlock = v6.ownBlock ∨ ∀ k, v6'.ownBlock = some k → w.heap.size ≤ k) : RS w' G v6' v7 (.slice none 0 0) (us ++ [v10]) (rows ++ [own]) all [] := by
  have h10 := own_grown h.o10 hg (fun k hk e => own_type h.o6 h.o10 row_ne k e hk)
  have h7 := own_grown h.o7 hg (fun k hk e => own_type h.o6 h.o7 row_ne k e hk)
  refine ⟨by simp [h.len], by simpa using ho, h7, World.ownsRow_nil _ _ _ _, ?_, fun k _ hk => by simp [Value.ownBlock] at hk⟩
  have h1 : Fz (fun k => v6'.ownBlock = some k ∨ v7.ownBlock = some k ∨ (Value.slice none 0 0).ownBlock = some k) w' (fun W => ∀ i (h : i < us.length) (h2 : i < rows.length), Rs W us[i] rows[i]) := by
    refine h.fr.wide (ex_grown hg fun k hk => .inl hk) fun k hk hh => ?_
    rcases hh with hh | hh | hh
    · rcases hs with hs | hs
      · exact .inl (hs ▸ hh)
      · have := hs k hh; omega
    · exact .inr (.inl hh)
    · simp [Value.ownBlock] at hh
  have h2 : Fz (fun k => v6'.ownBlock = some k ∨ v7.ownBlock = some k ∨ (Value.slice none 0 0).ownBlock = some k) w' (fun W => Rs W v10 own) := by
    intro W hW
    have := own_ex h10 (fun k hk hh => by
      rcases hh with hh | hh | hh
      · exact own_type ho h10 row_ne k hh hk
      · exact h.ne k hh hk
      · simp [Value.ownBlock] at hh) hW
    exact Three.Ss.of_owns this
  intro W hW i h3 h4
  rcases Nat.lt_or_ge i us.length with h5 | h5
  · rw [List.getElem_append_left h5, List.getElem_append_left (by rw [← h.len]; exact h5)]
    exact h1 W hW i h5 (by rw [← h.len]; exact h5)
  · obtain rfl : i = us.length := by simp at h3; omega
    rw [List.getElem_append_right (Nat.le_refl _), List.getElem_append_right (by rw [h.len]; exact Nat.le_refl _)]
    simp only [h.len, Nat.sub_self, List.getElem_cons_zero]
    exact h2 W hW
theorem RS.vs {w : World} {G : Nat} {v6 v7 v10 : Value} {us : List Value} {rows : List (List Rw)} {all own : List Rw} (h : RS w G v6 v7 v10 us rows all own) : Vs w v6 rows := ⟨us, Sl.of_owns h.o6, h.fr.here⟩
end Go.Proofs.YtmapmeacjpoaoaaDoor
namespace Go.Proofs.YtmapmeacjpoaoaaDoor
open Go Go.RowKit

/-- The slice value v reads as the rows l, whatever is done to blocks that were there in w. -/
def Rz (w w' : World) (v : Value) (l : List Rw) : Prop := ∀ G : Nat → Prop, (∀ k, G k → k < w.heap.size) → Fz G w' (fun W => Rs W v l)
theorem rs_take_eq {w : World} {ao : Option Addr} {n cap : Nat} {l : List Rw} (h : Rs w (.slice ao n cap) l) (hn : l.length = n) (kl : IntKind) (k : Nat) (hk : k ≤ n) (W : World) :
    (Instr.slice 40 (.slice ao n cap) none (some (.int kl k)) none).run Tryd.prog W = .ok (.slice ao k cap) W := by
  obtain ⟨i, hi, hz, h4, h5⟩ := info_parts infoRw
  obtain ⟨_, ao', cap', e1, h1, _⟩ := h.sl hn
  obtain ⟨-, -, rfl⟩ := Value.slice.inj e1
  have ht := Tryd.underlying40
  have he : Tryd.prog.elem 40 = 100 := by simp [Program.elem, ht]
  rw [run_slice_h W 40 ao n cap (by rw [he]; exact ht) kl k (by omega) (by omega), he]
  have ha : (ao.map fun x => x.add 0) = ao := by cases ao <;> simp [Addr.add_zero']
  simp [sizeOf, typeInfo, hi, h4, sliced, Result.andThen, ha]

set_option maxRecDepth 4000 in
set_option maxHeartbeats 8000000 in
theorem munion_any (v : Value) (rows : List (List Rw)) (most : Int) (w : World) (h : Vs w v rows) (hl : rows.flatten.length ≤ 100000) :
    Calls Tryd.prog 49 #[v, .int .i64 most] w fun e w' => ∃ v' C, e = .returned v' ∧ S.IsSort rows.flatten C ∧ Rz w w' v' (C.take (S.upto most C.length)) ∧ Below w.heap.size w w' := by
  obtain ⟨ao, cap, rfl, -⟩ := h.shape
  have hbig := h.len
  have HV := Lib.hid h
  clear h
  obtain ⟨n, hn⟩ : ∃ n, rows.length = n := ⟨_, rfl⟩
  rw [hn] at HV hbig ⊢
  have HN := Lib.hid hn
  clear hn
  go_enter Tryd.func49, Tryd.ntmps49
  go_wp2_with fail
  go_loopw [5, 6] (fun t u wr => ∃ (i : Nat) (C : List Rw), i ≤ n ∧ u = .int .i64 i ∧ Hid (wr.ownsRow w.heap.size 100 3 t C.length (RW.cells C)) ∧ Hid (S.IsSort (rows.take i).flatten C) ∧ Hid (Below w.heap.size w wr)) (fun _ u _ => n - (intOf u).toNat)
  case atStart => exact ⟨0, [], by omega, rfl, World.ownsRow_nil _ _ _ _, S.IsSort.self (by exact List.Pairwise.nil), Below.refl _ _⟩
  case round =>
    obtain ⟨i, C0, hi, rfl, HW, HI, hbr⟩ := hrel
    have HR : Hid (Rs wr _ C0) := Three.Ss.of_owns HW.out
    by_cases hin : i < n
    · have hin' : (i : Int) < (n : Int) := by omega
      obtain ⟨b, off, x, rfl, hx, hc⟩ := HV.out.at (j := i) (by rw [HN.out]; exact hin)
      obtain ⟨px, cx, rfl, -⟩ := hx.shape
      have hfl : (rows.take i).flatten.length + (rows[i]'(by rw [HN.out]; exact hin)).length ≤ 100000 := Nat.le_trans (S.flat_len _) hl
      have HST : Hid ((rows.take (i + 1)).flatten = (rows.take i).flatten ++ (rows[i]'(by rw [HN.out]; exact hin))) := S.flat_step _
      obtain ⟨l, hll⟩ : ∃ l, (rows[i]'(by rw [HN.out]; exact hin)) = l := ⟨_, rfl⟩
      rw [hll] at hx hc hfl HST
      obtain ⟨m, hm⟩ : ∃ m, l.length = m := ⟨_, rfl⟩
      rw [hm] at hx hc hfl
      have HM := Lib.hid hm
      have HX := Lib.hid hx
      have HCell := Lib.hid hc
      obtain ⟨A, hA⟩ : ∃ A, (rows.take i).flatten = A := ⟨_, rfl⟩
      rw [hA] at hfl HST HI
      obtain ⟨N, hNA⟩ : ∃ N, A.length = N := ⟨_, rfl⟩
      rw [hNA] at hfl
      have HNA := Lib.hid hNA
      clear hll hm hx hc hA hNA
      go_wp2_with fail
      go_loopw [5, 7] (fun t u wr => ∃ (k : Nat) (C : List Rw), k ≤ m ∧ u = .int .i64 k ∧ Hid (wr.ownsRow w.heap.size 100 3 t C.length (RW.cells C)) ∧ Hid (S.IsSort (A ++ l.take k) C) ∧ Hid (Below w.heap.size w wr)) (fun _ u _ => m - (intOf u).toNat)
      case atStart => exact ⟨0, C0, by omega, rfl, HW, by simpa using HI, hbr⟩
      case round =>
        clear HR HW HI hbr
        obtain ⟨k, C, hk, rfl, HW, HI, hbr⟩ := hrel
        have HR : Hid (Rs wr _ C) := Three.Ss.of_owns HW.out
        have cell := HCell.out wr hbr.out
        by_cases hkm : k < m
        · have hkm' : (k : Int) < (m : Int) := by omega
          have hk0 : (0 : Int) ≤ (k : Int) := by omega
          have hin0 : (0 : Int) ≤ (i : Int) := by omega
          obtain ⟨b2, o2, rfl, hlk⟩ := HX.out.at (k := k) (by rw [HM.out]; exact hkm)
          have HTK : Hid (A ++ l.take (k + 1) = (A ++ l.take k) ++ [l[k]'(by rw [HM.out]; exact hkm)]) := by
            unfold Hid
            rw [List.take_succ_eq_append_getElem (by rw [HM.out]; exact hkm), List.append_assoc]
          obtain ⟨x, hx⟩ : ∃ x, (l[k]'(by rw [HM.out]; exact hkm)) = x := ⟨_, rfl⟩
          rw [hx] at hlk HTK
          have HLk := Lib.hid hlk
          clear hx hlk
          obtain ⟨a5, c5, rfl, -⟩ := HR.out.shape
          have hcl : N + k = C.length := by
            have h1 := HI.out.len
            rw [List.length_append, HNA.out, List.length_take, HM.out, Nat.min_eq_left hk] at h1
            exact h1.symm
          obtain ⟨c, hc⟩ : ∃ c, C.length = c := ⟨_, rfl⟩
          rw [hc] at hcl HR ⊢
          have HCc := Lib.hid hc
          have HIns : Hid (∀ j, (∀ y ∈ C.drop j, S.rlt x y = true) → (∀ q (_ : q + 1 = j) (h : q < C.length), S.rlt x C[q] = false) → j ≤ c → S.IsSort (A ++ l.take (k + 1)) (C.take j ++ x :: C.drop j)) := fun j h2 h1 hj => by rw [HTK.out]; exact S.ins_at j HI.out h2 h1 (by omega)
          clear hc HTK HI
          obtain ⟨x0, x1, x2⟩ := x
          go_wp2_with fail
          go_loopw [8] (fun u wr => ∃ j : Nat, j ≤ c ∧ u = .int .i64 j ∧ Hid (∀ y ∈ C.drop j, S.rlt (x0, x1, x2) y = true) ∧ Hid (Rs wr (.slice a5 c c5) C) ∧ Hid (Below w.heap.size w wr)) (fun u _ => (intOf u).toNat)
          case atStart => exact ⟨c, Nat.le_refl _, rfl, (fun y hy => by rw [List.drop_of_length_le (Nat.le_of_eq HCc.out)] at hy; cases hy), HR, hbr⟩
          case round =>
            clear HR hbr cell
            obtain ⟨j, hjc, rfl, HD, HR, hbr⟩ := hrel
            by_cases hj0 : 0 < j
            · obtain ⟨q, rfl⟩ : ∃ q, j = q + 1 := ⟨j - 1, by omega⟩
              obtain ⟨b3, o3, rfl, hlq⟩ := HR.out.at (k := q) (by rw [HCc.out]; omega)
              have HDA : Hid (S.rlt (x0, x1, x2) (C[q]'(by rw [HCc.out]; omega)) = true → ∀ y ∈ C.drop q, S.rlt (x0, x1, x2) y = true) := fun h => S.drop_all (by rw [HCc.out]; omega) h HD.out
              have HIN : Hid (S.rlt (x0, x1, x2) (C[q]'(by rw [HCc.out]; omega)) = false → S.IsSort (A ++ l.take (k + 1)) (C.take (q + 1) ++ (x0, x1, x2) :: C.drop (q + 1))) := fun h => HIns.out (q + 1) HD.out (fun q' hq' h' => by (obtain rfl : q' = q := by omega); exact h) hjc
              obtain ⟨y, hy⟩ : ∃ y, (C[q]'(by rw [HCc.out]; omega)) = y := ⟨_, rfl⟩
              rw [hy] at hlq HDA HIN
              have HLq := Lib.hid hlq
              clear hy hlq HD
              obtain ⟨y0, y1, y2⟩ := y
              have HC : Hid (∀ W, Calls Tryd.prog 72 #[.agg #[.string (str x0), .int .i64 x1, .string (str x2)], .agg #[.string (str y0), .int .i64 y1, .string (str y2)]] W fun e w' => e = .returned (.bool (S.rlt (x0, x1, x2) (y0, y1, y2))) ∧ Ext W w') := fun W => refLessR_any (x0, x1, x2) (y0, y1, y2) W
              obtain ⟨j, hj⟩ : ∃ j, q + 1 = j := ⟨_, rfl⟩
              rw [hj] at hjc hj0 HIN ⊢
              have i1 : (q : Int) < (c : Int) := by omega
              have i2 : (0 : Int) ≤ (q : Int) := by omega
              have i3 : (0 : Int) < (j : Int) := by omega
              have i7 : IntKind.i64.wrap ((j : Int) - 1) = (q : Int) := by rw [IntKind.wrap_i64] <;> omega
              go_wp2_with fail
              refine wp_region_mix ext_grow [(0, false), (1, false), (2, false), (3, false), (4, false), (5, false), (6, false), (7, false), (8, false), (9, false), (10, false), (11, false), (12, false), (13, false), (14, false), (15, false), (16, false)] (by kernel_rfl) (by kernel_rfl) ?_
              have HR0 : Hid (Rs wr.drew (.slice (some ⟨b3, o3, none⟩) c c5) C) := HR.out
              have hbr1 : Hid (Below w.heap.size w wr.drew) := hbr.out.drew
              have HLq1 : Hid (∀ W, Below wr.drew.heap.size wr.drew W → W.cell? ⟨b3, o3 + q * 3, none⟩ = some (.string (str y0)) ∧ W.cell? ⟨b3, o3 + q * 3 + 1, none⟩ = some (.int .i64 y1) ∧ W.cell? ⟨b3, o3 + q * 3 + 2, none⟩ = some (.string (str y2))) := fun W hW => HLq.out W (below_next (below_drewN wr 1) hW)
              clear HR hbr HLq
              generalize wr.drew = w0 at *
              have g0 : ∀ x : Later w0, x.1.cell? ⟨b, off + i, none⟩ = some (.slice (some ⟨b2, o2, none⟩) m cx) := fun x => HCell.out x.1 (below_next hbr1.out x.2)
              have p0 : ∀ x : Later w0, x.1.cell? ⟨b2, o2 + k * 3, none⟩ = some (.string (str x0)) := fun x => (HLk.out x.1 (below_next hbr1.out x.2)).1
              have p1 : ∀ x : Later w0, x.1.cell? ⟨b2, o2 + k * 3 + 1, none⟩ = some (.int .i64 x1) := fun x => (HLk.out x.1 (below_next hbr1.out x.2)).2.1
              have p2 : ∀ x : Later w0, x.1.cell? ⟨b2, o2 + k * 3 + 2, none⟩ = some (.string (str x2)) := fun x => (HLk.out x.1 (below_next hbr1.out x.2)).2.2
              have q0 : ∀ x : Later w0, x.1.cell? ⟨b3, o3 + q * 3, none⟩ = some (.string (str y0)) := fun x => (HLq1.out x.1 x.2).1
              have q1 : ∀ x : Later w0, x.1.cell? ⟨b3, o3 + q * 3 + 1, none⟩ = some (.int .i64 y1) := fun x => (HLq1.out x.1 x.2).2.1
              have q2 : ∀ x : Later w0, x.1.cell? ⟨b3, o3 + q * 3 + 2, none⟩ = some (.string (str y2)) := fun x => (HLq1.out x.1 x.2).2.2
              cases hlt : S.rlt (x0, x1, x2) (y0, y1, y2) with
              | true =>
                have HD2 := Lib.hid (HDA.out hlt)
                rw [hlt] at HC
                clear hlt HDA HIN
                repeat (refine mix_soft rfl (fun K hK => ?_); go_simp; (first | (refine hK _ ?_; clear hK K) | (apply Exists.intro; refine ⟨fun x => ?_, hK _ ?_⟩; (first | (go_at_call 72; with_reducible exact HC.out _)); clear hK K)))
                clear p0 p1 p2 q0 q1 q2 g0
                refine mix_done fun w4 hb5 => ?_
                have HR4 := Lib.hid (Three.Ss.below HR0.out hb5)
                have hb4 := Lib.hid (below_next hbr1.out hb5)
                clear hb5 HR0 hbr1 HLq1 HC
                go_wp2_with fail
                go_roundw
                case rel => exact ⟨q, by omega, by go_num, HD2, HR4, hb4⟩
                case measure => simp [intOf]; omega
              | false =>
                have HINS := Lib.hid (HIN.out hlt)
                rw [hlt] at HC
                clear hlt HDA HIN
                repeat (refine mix_soft rfl (fun K hK => ?_); go_simp; (first | (refine hK _ ?_; clear hK K) | (apply Exists.intro; refine ⟨fun x => ?_, hK _ ?_⟩; (first | (go_at_call 72; with_reducible exact HC.out _)); clear hK K)))
                clear p0 p1 p2 q0 q1 q2 g0
                refine mix_done fun w4 hb5 => ?_
                have HR4 : Hid (Rs w4 (.slice (some ⟨b3, o3, none⟩) c c5) C) := Three.Ss.below HR0.out hb5
                have hb4 := Lib.hid (below_next hbr1.out hb5)
                clear hb5 HR0 hbr1 HLq1 HC
                obtain ⟨vt, HVt, hrt⟩ := rs_take HR4.out HCc.out .i64 j hjc
                obtain ⟨vd, HVd, hrd⟩ := rs_drop HR4.out HCc.out .i64 j hjc
                have HVT := Lib.hid HVt
                have HVD := Lib.hid HVd
                obtain ⟨G, hG⟩ : ∃ G, w4.heap.size = G := ⟨_, rfl⟩
                have HO0 := Lib.hid (World.ownsRow_nil w4 G 100 3)
                have HS0 : Hid (Sl w4 3 j vt (RW.cells (C.take j))) := HVt
                have hG4 : G ≤ w4.heap.size := Nat.le_of_eq hG.symm
                have HG := Lib.hid hG
                clear HR4 HVt HVd hG
                go_wp2_with (at_builtin; go_must (refine wpList_append_sl rfl _ _ 40 rfl G 100 _ 3 40 Tryd.underlying40 infoRw rfl (by decide) _ _ _ rfl HO0.out _ j (RW.cells (C.take j)) rfl HS0.out (rw_oneCell _) (by unfold maxLen; omega) (by omega) hG4 ?_))
                intro v5 w5 hown5 hgrow hnn
                clear hnn
                have HB5 : Hid (Below G w4 w5) := (Below.refl _ _).grown hgrow hG4 (ownBlock_ge HO0.out)
                have HO5 : Hid (w5.ownsRow G 100 3 v5 j (RW.cells (C.take j))) := by
                  unfold Hid
                  simpa using hown5
                clear hown5 hgrow HO0 HS0 hG4 hrt
                have hb5 : Hid (Below w.heap.size w w5) := below_next hb4.out (by rw [HG.out]; exact HB5.out)
                have hG5 : G ≤ w5.heap.size := by rw [← HG.out]; exact HB5.out.size
                have cell := HCell.out w5 hb5.out
                obtain ⟨e0, e1, e2⟩ := HLk.out w5 hb5.out
                have HO6 := Lib.hid (HO5.out.alloc (.cells #[.string (str x0), .int .i64 x1, .string (str x2)] 100))
                have HS6 : Hid (Sl (w5.alloc (.cells #[.string (str x0), .int .i64 x1, .string (str x2)] 100)) 3 1 (.slice (some ⟨w5.heap.size, 0, none⟩) 1 1) (RW.cells [(x0, x1, x2)])) := Sl.lit w5 100 3 1 #[.string (str x0), .int .i64 x1, .string (str x2)] (0, 0) rfl (by decide)
                have HB6 : Hid (Below G w4 (w5.alloc (.cells #[.string (str x0), .int .i64 x1, .string (str x2)] 100))) := HB5.out.alloc (by omega) _
                have hG6 : G ≤ (w5.alloc (.cells #[.string (str x0), .int .i64 x1, .string (str x2)] 100)).heap.size := by simp; omega
                clear HO5 HB5 hb5
                go_wp2_with (at_builtin; go_must (refine wpList_append_sl rfl _ _ 40 rfl G 100 _ 3 40 Tryd.underlying40 infoRw rfl (by decide) _ _ _ rfl HO6.out _ 1 (RW.cells [(x0, x1, x2)]) rfl HS6.out (rw_oneCell _) (by unfold maxLen; omega) (by omega) hG6 ?_))
                intro v7 w7 hown7 hgrow hnn
                clear hnn
                have HB7 : Hid (Below G w4 w7) := HB6.out.grown hgrow hG6 (ownBlock_ge HO6.out)
                have hG7 : G ≤ w7.heap.size := Nat.le_trans hG6 hgrow.size
                have HO7 : Hid (w7.ownsRow G 100 3 v7 (j + 1) (RW.cells (C.take j) ++ RW.cells [(x0, x1, x2)])) := hown7
                have HS7 : Hid (Sl w7 3 (c - j) vd (RW.cells (C.drop j))) := HVD.out.below (by rw [HG.out]; exact HB7.out)
                clear hown7 hgrow HO6 HS6 HB6 hG6 hG5 cell e0 e1 e2 HVT HVD
                go_wp2_with (at_builtin; go_must (refine wpList_append_sl rfl _ _ 40 rfl G 100 _ 3 40 Tryd.underlying40 infoRw rfl (by decide) _ _ _ rfl HO7.out _ (c - j) (RW.cells (C.drop j)) rfl HS7.out (rw_oneCell _) (by unfold maxLen; omega) (by omega) hG7 ?_))
                intro v9 w9 hown9 hgrow hnn
                clear hnn
                have HB9 : Hid (Below G w4 w9) := HB7.out.grown hgrow hG7 (ownBlock_ge HO7.out)
                have hb9 : Hid (Below w.heap.size w w9) := below_next hb4.out (by rw [HG.out]; exact HB9.out)
                have HR9 : Hid (w9.ownsRow w.heap.size 100 3 v9 (C.take j ++ (x0, x1, x2) :: C.drop j).length (RW.cells (C.take j ++ (x0, x1, x2) :: C.drop j))) := by
                  have hl9 : (C.take j ++ (x0, x1, x2) :: C.drop j).length = j + 1 + (c - j) := by simp [HCc.out]; omega
                  have := hown9
                  rw [← RW.cells_append, ← RW.cells_append] at this
                  unfold Hid
                  rw [hl9]
                  refine ownsRow.base ?_ (show w.heap.size ≤ G by rw [← HG.out]; exact hb4.out.size)
                  simpa using this
                clear hown9 hgrow HO7 HS7 HB7 hG7 HB9 hb4 hrd
                go_wp2_with fail
                go_roundw
                case rel => exact ⟨k + 1, C.take j ++ (x0, x1, x2) :: C.drop j, by omega, by go_num, HR9, HINS, hb9⟩
                case measure => simp [intOf]; omega
            · obtain rfl : j = 0 := by omega
              have HINS := Lib.hid (HIns.out 0 HD.out (fun q' hq' h' => by omega) hjc)
              clear HD
              go_wp2_with fail
              refine wp_region_mix ext_grow [(0, false), (1, false), (2, false), (3, false), (4, false), (5, false), (6, false), (7, false), (8, false), (9, false), (10, false), (11, false), (12, false), (13, false), (14, false), (15, false), (16, false)] (by kernel_rfl) (by kernel_rfl) ?_
              have HR0 : Hid (Rs wr.drew (.slice a5 c c5) C) := HR.out
              have hbr1 : Hid (Below w.heap.size w wr.drew) := hbr.out.drew
              clear HR hbr
              generalize wr.drew = w0 at *
              repeat (refine mix_soft rfl (fun K hK => ?_); go_simp; (first | (refine hK _ ?_; clear hK K) | (apply Exists.intro; refine ⟨fun x => ?_, hK _ ?_⟩; (first | (go_at_call 72; with_reducible exact HC.out _)); clear hK K)))
              refine mix_done fun w4 hb5 => ?_
              have HR4 : Hid (Rs w4 (.slice a5 c c5) C) := Three.Ss.below HR0.out hb5
              have hb4 := Lib.hid (below_next hbr1.out hb5)
              clear hb5 HR0 hbr1
              obtain ⟨vt, HVt, hrt⟩ := rs_take HR4.out HCc.out .i64 0 hjc
              obtain ⟨vd, HVd, hrd⟩ := rs_drop HR4.out HCc.out .i64 0 hjc
              rw [show ((0 : Nat) : Int) = 0 from rfl] at hrt hrd
              have HVT := Lib.hid HVt
              have HVD := Lib.hid HVd
              obtain ⟨G, hG⟩ : ∃ G, w4.heap.size = G := ⟨_, rfl⟩
              have HO0 := Lib.hid (World.ownsRow_nil w4 G 100 3)
              have HS0 : Hid (Sl w4 3 0 vt (RW.cells (C.take 0))) := HVt
              have hG4 : G ≤ w4.heap.size := Nat.le_of_eq hG.symm
              have HG := Lib.hid hG
              clear HR4 HVt HVd hG
              go_wp2_with (at_builtin; go_must (refine wpList_append_sl rfl _ _ 40 rfl G 100 _ 3 40 Tryd.underlying40 infoRw rfl (by decide) _ _ _ rfl HO0.out _ 0 (RW.cells (C.take 0)) rfl HS0.out (rw_oneCell _) (by unfold maxLen; omega) (by omega) hG4 ?_))
              intro v5 w5 hown5 hgrow hnn
              clear hnn
              have HB5 : Hid (Below G w4 w5) := (Below.refl _ _).grown hgrow hG4 (ownBlock_ge HO0.out)
              have HO5 : Hid (w5.ownsRow G 100 3 v5 0 (RW.cells (C.take 0))) := by
                unfold Hid
                simpa using hown5
              clear hown5 hgrow HO0 HS0 hG4 hrt
              have hb5 : Hid (Below w.heap.size w w5) := below_next hb4.out (by rw [HG.out]; exact HB5.out)
              have hG5 : G ≤ w5.heap.size := by rw [← HG.out]; exact HB5.out.size
              have cell := HCell.out w5 hb5.out
              obtain ⟨e0, e1, e2⟩ := HLk.out w5 hb5.out
              have HO6 := Lib.hid (HO5.out.alloc (.cells #[.string (str x0), .int .i64 x1, .string (str x2)] 100))
              have HS6 : Hid (Sl (w5.alloc (.cells #[.string (str x0), .int .i64 x1, .string (str x2)] 100)) 3 1 (.slice (some ⟨w5.heap.size, 0, none⟩) 1 1) (RW.cells [(x0, x1, x2)])) := Sl.lit w5 100 3 1 #[.string (str x0), .int .i64 x1, .string (str x2)] (0, 0) rfl (by decide)
              have HB6 : Hid (Below G w4 (w5.alloc (.cells #[.string (str x0), .int .i64 x1, .string (str x2)] 100))) := HB5.out.alloc (by omega) _
              have hG6 : G ≤ (w5.alloc (.cells #[.string (str x0), .int .i64 x1, .string (str x2)] 100)).heap.size := by simp; omega
              clear HO5 HB5 hb5
              go_wp2_with (at_builtin; go_must (refine wpList_append_sl rfl _ _ 40 rfl G 100 _ 3 40 Tryd.underlying40 infoRw rfl (by decide) _ _ _ rfl HO6.out _ 1 (RW.cells [(x0, x1, x2)]) rfl HS6.out (rw_oneCell _) (by unfold maxLen; omega) (by omega) hG6 ?_))
              intro v7 w7 hown7 hgrow hnn
              clear hnn
              have HB7 : Hid (Below G w4 w7) := HB6.out.grown hgrow hG6 (ownBlock_ge HO6.out)
              have hG7 : G ≤ w7.heap.size := Nat.le_trans hG6 hgrow.size
              have HO7 : Hid (w7.ownsRow G 100 3 v7 (0 + 1) (RW.cells (C.take 0) ++ RW.cells [(x0, x1, x2)])) := hown7
              have HS7 : Hid (Sl w7 3 (c - 0) vd (RW.cells (C.drop 0))) := HVD.out.below (by rw [HG.out]; exact HB7.out)
              clear hown7 hgrow HO6 HS6 HB6 hG6 hG5 cell e0 e1 e2 HVT HVD
              go_wp2_with (at_builtin; go_must (refine wpList_append_sl rfl _ _ 40 rfl G 100 _ 3 40 Tryd.underlying40 infoRw rfl (by decide) _ _ _ rfl HO7.out _ (c - 0) (RW.cells (C.drop 0)) rfl HS7.out (rw_oneCell _) (by unfold maxLen; omega) (by omega) hG7 ?_))
              intro v9 w9 hown9 hgrow hnn
              clear hnn
              have HB9 : Hid (Below G w4 w9) := HB7.out.grown hgrow hG7 (ownBlock_ge HO7.out)
              have hb9 : Hid (Below w.heap.size w w9) := below_next hb4.out (by rw [HG.out]; exact HB9.out)
              have HR9 : Hid (w9.ownsRow w.heap.size 100 3 v9 (C.take 0 ++ (x0, x1, x2) :: C.drop 0).length (RW.cells (C.take 0 ++ (x0, x1, x2) :: C.drop 0))) := by
                have hl9 : (C.take 0 ++ (x0, x1, x2) :: C.drop 0).length = 0 + 1 + (c - 0) := by simp [HCc.out]; omega
                have := hown9
                rw [← RW.cells_append, ← RW.cells_append] at this
                unfold Hid
                rw [hl9]
                refine ownsRow.base ?_ (show w.heap.size ≤ G by rw [← HG.out]; exact hb4.out.size)
                simpa using this
              clear hown9 hgrow HO7 HS7 HB7 hG7 HB9 hb4 hrd
              go_wp2_with fail
              go_roundw
              case rel => exact ⟨k + 1, C.take 0 ++ (x0, x1, x2) :: C.drop 0, by omega, by go_num, HR9, HINS, hb9⟩
              case measure => simp [intOf]; omega
        · obtain rfl : k = m := by omega
          rw [List.take_of_length_le (Nat.le_of_eq HM.out), ← HST.out] at HI
          go_wp2_with fail
          go_roundw
          case rel => exact ⟨i + 1, C, by omega, by go_num, HW, HI, hbr⟩
          case measure => simp [intOf]; omega
    · have HF := Lib.hid (show (rows.take i).flatten = rows.flatten by rw [List.take_of_length_le (by rw [HN.out]; omega)])
      rw [HF.out] at HI
      obtain ⟨a5, c5, rfl, -⟩ := HR.out.shape
      have hlen := HR.out.len
      obtain ⟨k, hk⟩ : ∃ k, S.upto most C0.length = k := ⟨_, rfl⟩
      have hkl : k ≤ C0.length := by rw [← hk]; exact Nat.min_le_right _ _
      obtain ⟨vt, hvt, hrt⟩ : ∃ vt, vt = .slice a5 k c5 ∧ ∀ W, (Instr.slice 40 (.slice a5 C0.length c5) none (some (.int .i64 k)) none).run Tryd.prog W = .ok vt W := ⟨_, rfl, rs_take_eq HR.out rfl .i64 k hkl⟩
      have HT : Hid (Rz w wr vt (C0.take (S.upto most C0.length))) := by
        subst hvt
        intro G hG W hW
        have hs := Sl.take (Fz.own HW.out hG W hW) k hkl
        rw [RW.cells_take] at hs
        unfold Rs Three.Ss
        rw [hk, List.length_take, Nat.min_eq_left hkl]
        exact hs
      have HA : Hid (k = C0.length → Rz w wr (.slice a5 C0.length c5) (C0.take (S.upto most C0.length))) := fun h => by
        rw [hk, h, List.take_of_length_le (Nat.le_refl _)]
        exact fun G hG => Fz.own HW.out hG
      clear hvt HF HR HW
      obtain ⟨c, hc⟩ : ∃ c, C0.length = c := ⟨_, rfl⟩
      unfold S.upto at hk
      rw [hc] at hk hkl hlen hrt ⊢
      have HA2 : Hid (k = c → Rz w wr (.slice a5 c c5) (C0.take (S.upto most C0.length))) := fun h => by
        have := HA.out (by rw [hc]; exact h)
        rw [hc] at this ⊢
        exact this
      clear HA hc
      by_cases h1 : most < 0
      · obtain rfl : k = 0 := by omega
        rw [show ((0 : Nat) : Int) = 0 from rfl] at hrt
        by_cases h2 : 0 < c
        · have h3 : (0 : Int) < (c : Int) := by omega
          clear HA2
          go_wp2_with fail
          go_ret
          first | exact ⟨vt, C0, rfl, HI.out, HT.out, hbr.out⟩ | exact ⟨vt, rfl, C0, HI.out, HT.out, hbr.out⟩
        · obtain rfl : c = 0 := by omega
          have HT := Lib.hid (HA2.out rfl)
          clear HA2
          go_wp2_with fail
          go_ret
          first | exact ⟨_, C0, rfl, HI.out, HT.out, hbr.out⟩ | exact ⟨_, rfl, C0, HI.out, HT.out, hbr.out⟩
      · by_cases h2 : most < (c : Int)
        · have hkm : (k : Int) = most := by omega
          rw [hkm] at hrt
          clear HA2
          go_wp2_with fail
          go_ret
          first | exact ⟨vt, C0, rfl, HI.out, HT.out, hbr.out⟩ | exact ⟨vt, rfl, C0, HI.out, HT.out, hbr.out⟩
        · obtain rfl : k = c := by omega
          have HT := Lib.hid (HA2.out rfl)
          clear HA2
          go_wp2_with fail
          go_ret
          first | exact ⟨_, C0, rfl, HI.out, HT.out, hbr.out⟩ | exact ⟨_, rfl, C0, HI.out, HT.out, hbr.out⟩
end Go.Proofs.YtmapmeacjpoaoaaDoor
