/- What the reference's Check of a row of grants returns. -/
import Derived.Test.YtljpfocmnppjgaaDoorGr4
namespace Go.Proofs.YtljpfocmnppjgaaDoor
open Go Go.RowKit

set_option maxHeartbeats 1000000 in
theorem refGcheck_any (v : Value) (us : List Nat) (vl : Value) (l : List Gr) (w : World) (hv : Us w v us) (hu : U64s us) (hl : Gs w vl l) :
    Calls Tryd.prog 37 #[v, vl] w fun e w' => e = .returned (.bool (L.gcheck us l)) ∧ Below w.heap.size w w' := by
  have hbig := hl.len
  obtain ⟨ao, cap, rfl, -⟩ := hv.shape
  obtain ⟨aol, capl, rfl, -⟩ := hl.shape
  by_cases h64 : 64 < l.length
  · have d0 : decide ((64 : Int) < (l.length : Int)) = true := by simp; omega
    have hfin := Lib.hid (L.gcheck_long (us := us) h64)
    clear hv hl hu h64
    go_enter Tryd.func37, Tryd.ntmps37
    go_wp2_with fail
    go_ret
    exact ⟨by rw [hfin.out]; rfl, Below.refl _ _⟩
  · have d0 : decide ((64 : Int) < (l.length : Int)) = false := by simp; omega
    have hdone : Hid ((∀ i, i < l.length → L.gok us l i = true) → L.gcheck us l = true) := fun h => by
      rw [L.gcheck_all h]; simp; omega
    have HF := Lib.hid (fun (g : Gr) (W : World) (hW : Below w.heap.size w W) => refFits_any _ us g W (hv.below hW) hu)
    have HL := Lib.hid hl
    clear hv hl
    obtain ⟨N, hN⟩ : ∃ N, l.length = N := ⟨_, rfl⟩
    have HN := Lib.hid hN
    rw [hN] at hbig HL d0 ⊢
    clear hN h64
    go_enter Tryd.func37, Tryd.ntmps37
    go_wp2_with fail
    go_loopw [5] (fun i wr => ∃ k : Nat, k ≤ N ∧ i = .int .i64 k ∧ Hid (∀ i, i < k → L.gok us l i = true) ∧ Below w.heap.size w wr) (fun i _ => N - (intOf i).toNat)
    case atStart => exact ⟨0, by omega, rfl, fun i hi => absurd hi (Nat.not_lt_zero _), Below.refl _ _⟩
    case round =>
      obtain ⟨k, hk, rfl, hok, hbr⟩ := hrel
      by_cases hkN : k < N
      · have hkl : k < l.length := by have := HN.out; omega
        have hgok := Lib.hid (L.gok_getElem (us := us) hkl)
        obtain ⟨b, off, rfl, hc⟩ := Gs.at3 (Three.Ss.below HL.out hbr) hkl
        obtain ⟨p0, p1, p2⟩ := hc k hkl
        obtain ⟨y, hy⟩ : ∃ y, l[k] = y := ⟨_, rfl⟩
        have HY := Lib.hid hy
        rw [hy] at p0 p1 p2 hgok
        obtain ⟨y0, y1, y2⟩ := y
        simp only [] at p0 p1 p2
        clear hc hy
        have HFk := Lib.hid (HF.out (y0, y1, y2) wr hbr)
        cases hf : L.fits us (y0, y1, y2) with
        | false =>
          have hfin : Hid (L.gcheck us l = false) := L.gcheck_no hkl (by rw [hgok.out, hf]; rfl)
          rw [hf] at HFk
          clear hf hgok
          go_wp2_with fail
          refine HFk.out.mono ?_
          rintro e w1 ⟨rfl, hb⟩
          have hb1 := below_next hbr hb
          clear hb p0 p1 p2 HFk
          go_wp2_with fail
          refine wp_region_mix ext_grow [(0, false), (1, false), (2, false), (3, false), (4, false), (5, false), (6, false), (7, false), (8, false), (9, false), (10, false), (11, false), (12, false), (13, false), (14, false), (15, false), (16, false), (17, false), (18, false)] (by kernel_rfl) (by kernel_rfl) ?_
          have hb2 : Below w.heap.size w w1.drew := hb1.drew
          generalize w1.drew = w2 at *
          repeat (refine mix_soft rfl (fun K hK => ?_); go_simp; (first | (refine hK _ ?_; clear hK K)))
          refine mix_done fun w4 hb4 => ?_
          have hbz := below_next hb2 hb4
          go_wp2_with fail
          go_ret
          exact ⟨by rw [hfin.out]; rfl, hbz⟩
        | true =>
          rw [hf] at HFk
          by_cases hk0 : k = 0
          · subst hk0
            have hnext : Hid (∀ i, i < 0 + 1 → L.gok us l i = true) := fun i hi => by
              obtain rfl : i = 0 := by omega
              rw [hgok.out, hf]
              rfl
            clear hf hgok
            simp only [Nat.zero_mul, Nat.add_zero] at p0 p1 p2
            go_wp2_with fail
            refine HFk.out.mono ?_
            rintro e w1 ⟨rfl, hb⟩
            have hb1 := below_next hbr hb
            clear hb p0 p1 p2 HFk
            go_wp2_with fail
            refine wp_region_mix ext_grow [(0, false), (1, false), (2, false), (3, false), (4, false), (5, false), (6, false), (7, false), (8, false), (9, false), (10, false), (11, false), (12, false), (13, false), (14, false), (15, false), (16, false), (17, false), (18, false)] (by kernel_rfl) (by kernel_rfl) ?_
            have hb2 : Below w.heap.size w w1.drew := hb1.drew
            generalize w1.drew = w2 at *
            repeat (refine mix_soft rfl (fun K hK => ?_); go_simp; (first | (refine hK _ ?_; clear hK K)))
            refine mix_done fun w4 hb4 => ?_
            have hbz := below_next hb2 hb4
            go_wp2_with fail
            go_roundw
            case rel => exact ⟨0 + 1, by omega, by go_num, hnext, hbz⟩
            case measure => simp [intOf]; omega
          · obtain ⟨m, rfl⟩ : ∃ m, k = m + 1 := ⟨k - 1, by omega⟩
            have hml : m < l.length := by omega
            have hmN : (m : Int) < (N : Int) := by omega
            have hwr : IntKind.i64.wrap (m : Int) = (m : Int) := by rw [IntKind.wrap_i64]; omega
            have hkI : (m : Int) + 1 < (N : Int) := by omega
            have hti : ((m : Int) + 1).toNat = m + 1 := by omega
            have hge : (0 : Int) ≤ (m : Int) + 1 := by omega
            have hpos : decide ((0 : Int) < (m : Int) + 1) = true := by rw [decide_eq_true_eq]; omega
            rw [show m + 1 - 1 = m from rfl, List.getD_eq_getElem?_getD, List.getElem?_eq_getElem hml, Option.getD_some, hf, decide_eq_false (p := m + 1 = 0) (by omega)] at hgok
            obtain ⟨z, hz⟩ : ∃ z, l[m] = z := ⟨_, rfl⟩
            rw [hz] at hgok
            have HZ := Lib.hid hz
            obtain ⟨z0, z1, z2⟩ := z
            clear hz hf hk0
            go_wp2_with fail
            refine HFk.out.mono ?_
            rintro e w1 ⟨rfl, hb⟩
            have hb1 := below_next hbr hb
            clear hb p0 p1 p2 HFk
            go_wp2_with fail
            refine wp_region_mix ext_grow [(0, false), (1, false), (2, false), (3, false), (4, false), (5, false), (6, false), (7, false), (8, false), (9, false), (10, false), (11, false), (12, false), (13, false), (14, false), (15, false), (16, false), (17, false), (18, false)] (by kernel_rfl) (by kernel_rfl) ?_
            have hb2 : Below w.heap.size w w1.drew := hb1.drew
            have HLw := Lib.hid (Three.Ss.below HL.out hb2)
            generalize w1.drew = w2 at *
            have HLz := Lib.hid (fun (x : Later w2) => Gs.at3 (Three.Ss.below HLw.out x.2) hml)
            have hcz : Hid (∀ (x : Later w2) i (hi : i < l.length), x.1.cell? ⟨b, off + i * 3, none⟩ = some (.int .i64 l[i].1) ∧ x.1.cell? ⟨b, off + i * 3 + 1, none⟩ = some (.int .i64 l[i].2.1) ∧ x.1.cell? ⟨b, off + i * 3 + 2, none⟩ = some (.int .i64 l[i].2.2)) := fun x => by
              obtain ⟨b', off', e, h⟩ := HLz.out x
              obtain ⟨rfl, rfl⟩ : b = b' ∧ off = off' := by simpa using e
              exact h
            have g0 : ∀ x : Later w2, x.1.cell? ⟨b, off + m * 3, none⟩ = some (.int .i64 z0) := fun x => by have := (hcz.out x m hml).1; rwa [HZ.out] at this
            have g1 : ∀ x : Later w2, x.1.cell? ⟨b, off + m * 3 + 1, none⟩ = some (.int .i64 z1) := fun x => by have := (hcz.out x m hml).2.1; rwa [HZ.out] at this
            have g2 : ∀ x : Later w2, x.1.cell? ⟨b, off + m * 3 + 2, none⟩ = some (.int .i64 z2) := fun x => by have := (hcz.out x m hml).2.2; rwa [HZ.out] at this
            have p0 : ∀ x : Later w2, x.1.cell? ⟨b, off + (m + 1) * 3, none⟩ = some (.int .i64 y0) := fun x => by have := (hcz.out x (m + 1) hkl).1; rwa [HY.out] at this
            have p1 : ∀ x : Later w2, x.1.cell? ⟨b, off + (m + 1) * 3 + 1, none⟩ = some (.int .i64 y1) := fun x => by have := (hcz.out x (m + 1) hkl).2.1; rwa [HY.out] at this
            have p2 : ∀ x : Later w2, x.1.cell? ⟨b, off + (m + 1) * 3 + 2, none⟩ = some (.int .i64 y2) := fun x => by have := (hcz.out x (m + 1) hkl).2.2; rwa [HY.out] at this
            have HLx : Hid (∀ x : Later w2, Calls Tryd.prog 48 #[gv (z0, z1, z2), gv (y0, y1, y2)] x.1 fun e w' => e = .returned (.bool (L.gless (z0, z1, z2) (y0, y1, y2))) ∧ Ext x.1 w') := fun x => refLess_any _ _ x.1
            clear hcz HLz HLw HY HZ
            cases hg : L.gless (z0, z1, z2) (y0, y1, y2) with
            | false =>
              have hfin : Hid (L.gcheck us l = false) := L.gcheck_no hkl (by rw [hgok.out, hg]; rfl)
              rw [hg] at HLx
              clear hg hgok
              repeat (refine mix_soft rfl (fun K hK => ?_); go_simp; (first | (refine hK _ ?_; clear hK K) | (apply Exists.intro; refine ⟨fun x => ?_, hK _ ?_⟩; (first | (go_at_call 48; with_reducible exact HLx.out x)); clear hK K)))
              refine mix_done fun w4 hb4 => ?_
              have hbz := below_next hb2 hb4
              clear g0 g1 g2 p0 p1 p2
              go_wp2_with fail
              go_ret
              exact ⟨by rw [hfin.out]; rfl, hbz⟩
            | true =>
              have hnext : Hid (∀ i, i < m + 1 + 1 → L.gok us l i = true) := fun i hi => by
                by_cases e : i = m + 1
                · subst e; rw [hgok.out, hg]; rfl
                · exact hok.out i (by omega)
              rw [hg] at HLx
              clear hg hgok
              repeat (refine mix_soft rfl (fun K hK => ?_); go_simp; (first | (refine hK _ ?_; clear hK K) | (apply Exists.intro; refine ⟨fun x => ?_, hK _ ?_⟩; (first | (go_at_call 48; with_reducible exact HLx.out x)); clear hK K)))
              refine mix_done fun w4 hb4 => ?_
              have hbz := below_next hb2 hb4
              clear g0 g1 g2 p0 p1 p2
              go_wp2_with fail
              go_roundw
              case rel => exact ⟨m + 1 + 1, by omega, by go_num, hnext, hbz⟩
              case measure => simp [intOf]; omega
      · obtain rfl : k = N := by omega
        have hfin : Hid (L.gcheck us l = true) := hdone.out fun i hi => hok.out i (by have := HN.out; omega)
        go_wp2_with fail
        go_ret
        exact ⟨by rw [hfin.out]; rfl, hbr⟩
end Go.Proofs.YtljpfocmnppjgaaDoor
