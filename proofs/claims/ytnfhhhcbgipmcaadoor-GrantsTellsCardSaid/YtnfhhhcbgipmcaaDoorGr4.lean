/- What the two Checks of a row of grants return. -/
import Derived.Test.YtnfhhhcbgipmcaaDoorGr3
namespace Go.Proofs.YtnfhhhcbgipmcaaDoor
open Go Go.RowKit

namespace L
def gok (us : List Nat) (l : List Gr) (i : Nat) : Bool := fits us (l.getD i (0, 0, 0)) && (decide (i = 0) || gless (l.getD (i - 1) (0, 0, 0)) (l.getD i (0, 0, 0)))
def gcheck (us : List Nat) (l : List Gr) : Bool := (List.range l.length).all (gok us l) && decide (l.length ≤ 64)
theorem gcheck_no {us : List Nat} {l : List Gr} {i : Nat} (hi : i < l.length) (h : gok us l i = false) : gcheck us l = false := by
  unfold gcheck
  have : (List.range l.length).all (gok us l) = false := by
    rw [List.all_eq_false]
    exact ⟨i, List.mem_range.2 hi, by rw [h]; decide⟩
  rw [this]; rfl
theorem gcheck_all {us : List Nat} {l : List Gr} (h : ∀ i, i < l.length → gok us l i = true) : gcheck us l = decide (l.length ≤ 64) := by
  unfold gcheck
  have : (List.range l.length).all (gok us l) = true := List.all_eq_true.2 fun i hi => h i (List.mem_range.1 hi)
  rw [this]; rfl
theorem gcheck_long {us : List Nat} {l : List Gr} (h : 64 < l.length) : gcheck us l = false := by
  unfold gcheck
  rw [decide_eq_false (by omega), Bool.and_false]
theorem gok_getElem {us : List Nat} {l : List Gr} {i : Nat} (hi : i < l.length) : gok us l i = (fits us l[i] && (decide (i = 0) || gless (l.getD (i - 1) (0, 0, 0)) l[i])) := by
  unfold gok
  rw [List.getD_eq_getElem?_getD, List.getElem?_eq_getElem hi]
  rfl
end L

set_option maxHeartbeats 1000000 in
theorem gcheck_any (v : Value) (us : List Nat) (vl : Value) (l : List Gr) (w : World) (hv : Us w v us) (hu : U64s us) (hl : Gs w vl l) :
    Calls Tryd.prog 40 #[v, vl] w fun e w' => e = .returned (.bool (L.gcheck us l)) ∧ Below w.heap.size w w' := by
  have hbig := hl.len
  obtain ⟨ao, cap, rfl, -⟩ := hv.shape
  obtain ⟨aol, capl, rfl, -⟩ := hl.shape
  have HF := Lib.hid (fun (g : Gr) (W : World) (hW : Below w.heap.size w W) => fits_any _ us g W (hv.below hW) hu)
  have HL := Lib.hid hl
  clear hv hl
  obtain ⟨N, hN⟩ : ∃ N, l.length = N := ⟨_, rfl⟩
  have HN := Lib.hid hN
  rw [hN] at hbig HL ⊢
  clear hN
  go_enter Tryd.func40, Tryd.ntmps40
  go_wp2_with fail
  go_loopw [9] (fun i wr => ∃ k : Nat, k ≤ N ∧ i = .int .i64 k ∧ Hid (∀ i, i < k → L.gok us l i = true) ∧ Below w.heap.size w wr) (fun i _ => N - (intOf i).toNat)
  case atStart => exact ⟨0, by omega, rfl, fun i hi => absurd hi (Nat.not_lt_zero _), Below.refl _ _⟩
  case round =>
    obtain ⟨k, hk, rfl, hok, hbr⟩ := hrel
    by_cases hkN : k < N
    · have hkl : k < l.length := by have := HN.out; omega
      have hgok := Lib.hid (L.gok_getElem (us := us) hkl)
      obtain ⟨b, off, rfl, hc⟩ := Gs.at3 (Three.Ss.below HL.out hbr) hkl
      obtain ⟨p0, p1, p2⟩ := hc k hkl
      obtain ⟨y, hy⟩ : ∃ y, l[k] = y := ⟨_, rfl⟩
      rw [hy] at p0 p1 p2 hgok
      obtain ⟨y0, y1, y2⟩ := y
      simp only [] at p0 p1 p2
      clear hc hy
      go_wp2_with fail
      refine wp_region_mix ext_grow [(0, false), (1, false), (2, false), (3, false), (4, false), (5, false), (6, false), (7, false), (8, false), (9, false), (10, false), (11, false), (12, false), (13, false), (14, false), (15, false), (16, false), (17, false)] (by kernel_rfl) (by kernel_rfl) ?_
      have hb2 : Below w.heap.size w (wr.alloc (.cells #[.int .i64 y0, .int .i64 y1, .int .i64 y2] 47)).drew := (hbr.alloc hbr.size _).drew
      have x1 : Bx (wr.alloc (.cells #[.int .i64 y0, .int .i64 y1, .int .i64 y2] 47)).drew wr.heap.size 47 (.int .i64 y0) (.int .i64 y1) (.int .i64 y2) := heap_alloc_new _ _
      have HLw := Lib.hid (Three.Ss.below HL.out hb2)
      generalize (wr.alloc (.cells #[.int .i64 y0, .int .i64 y1, .int .i64 y2] 47)).drew = w2 at *
      generalize wr.heap.size = B at *
      have e0 : ∀ x : Later w2, x.1.cell? ⟨B, 0, none⟩ = some (.int .i64 y0) := fun x => (x1.later x.2).cells.1
      have e1 : ∀ x : Later w2, x.1.cell? ⟨B, 1, none⟩ = some (.int .i64 y1) := fun x => (x1.later x.2).cells.2.1
      have e2 : ∀ x : Later w2, x.1.cell? ⟨B, 2, none⟩ = some (.int .i64 y2) := fun x => (x1.later x.2).cells.2.2
      have HFx : Hid (∀ x : Later w2, Calls Tryd.prog 36 #[.slice ao us.length cap, gv (y0, y1, y2)] x.1 fun e w' => e = .returned (.bool (L.fits us (y0, y1, y2))) ∧ Ext x.1 w') := fun x => HF.out (y0, y1, y2) x.1 (below_next hb2 x.2)
      clear p0 p1 p2 x1 hbr
      cases hf : L.fits us (y0, y1, y2) with
      | false =>
        have hfin : Hid (L.gcheck us l = false) := L.gcheck_no hkl (by rw [hgok.out, hf]; rfl)
        rw [hf] at HFx
        clear hf hgok
        repeat (refine mix_soft rfl (fun K hK => ?_); go_simp; (first | (refine hK _ ?_; clear hK K) | (apply Exists.intro; refine ⟨fun x => ?_, hK _ ?_⟩; (first | (go_at_call 36; with_reducible exact HFx.out x)); clear hK K)))
        refine mix_done fun w4 hb4 => ?_
        have hbz := below_next hb2 hb4
        clear e0 e1 e2
        go_wp2_with fail
        go_ret
        exact ⟨by rw [hfin.out]; rfl, hbz⟩
      | true =>
        rw [hf] at HFx
        by_cases hk0 : k = 0
        · subst hk0
          have hnext : Hid (∀ i, i < 0 + 1 → L.gok us l i = true) := fun i hi => by
            obtain rfl : i = 0 := by omega
            rw [hgok.out, hf]
            rfl
          clear hf hgok
          repeat (refine mix_soft rfl (fun K hK => ?_); go_simp; (first | (refine hK _ ?_; clear hK K) | (apply Exists.intro; refine ⟨fun x => ?_, hK _ ?_⟩; (first | (go_at_call 36; with_reducible exact HFx.out x)); clear hK K)))
          refine mix_done fun w4 hb4 => ?_
          have hbz := below_next hb2 hb4
          clear e0 e1 e2
          go_wp2_with fail
          go_roundw
          case rel => exact ⟨0 + 1, by omega, by go_num, hnext, hbz⟩
          case measure => simp [intOf]; omega
        · obtain ⟨m, rfl⟩ : ∃ m, k = m + 1 := ⟨k - 1, by omega⟩
          have hml : m < l.length := by omega
          have hmN : (m : Int) < (N : Int) := by omega
          have hwr : IntKind.i64.wrap (m : Int) = (m : Int) := by rw [IntKind.wrap_i64]; omega
          have hpos : decide ((0 : Int) < (m : Int) + 1) = true := by rw [decide_eq_true_eq]; omega
          rw [show m + 1 - 1 = m from rfl, List.getD_eq_getElem?_getD, List.getElem?_eq_getElem hml, Option.getD_some, hf, decide_eq_false (p := m + 1 = 0) (by omega)] at hgok
          obtain ⟨z, hz⟩ : ∃ z, l[m] = z := ⟨_, rfl⟩
          rw [hz] at hgok
          have HLz := Lib.hid (fun (x : Later w2) => Gs.at3 (Three.Ss.below HLw.out x.2) hml)
          have hcz : Hid (∀ x : Later w2, x.1.cell? ⟨b, off + m * 3, none⟩ = some (.int .i64 z.1) ∧ x.1.cell? ⟨b, off + m * 3 + 1, none⟩ = some (.int .i64 z.2.1) ∧ x.1.cell? ⟨b, off + m * 3 + 2, none⟩ = some (.int .i64 z.2.2)) := fun x => by
            obtain ⟨b', off', e, h⟩ := HLz.out x
            obtain ⟨rfl, rfl⟩ : b = b' ∧ off = off' := by simpa using e
            have := h m hml
            rwa [hz] at this
          clear HLz hz
          obtain ⟨z0, z1, z2⟩ := z
          have g0 : ∀ x : Later w2, x.1.cell? ⟨b, off + m * 3, none⟩ = some (.int .i64 z0) := fun x => (hcz.out x).1
          have g1 : ∀ x : Later w2, x.1.cell? ⟨b, off + m * 3 + 1, none⟩ = some (.int .i64 z1) := fun x => (hcz.out x).2.1
          have g2 : ∀ x : Later w2, x.1.cell? ⟨b, off + m * 3 + 2, none⟩ = some (.int .i64 z2) := fun x => (hcz.out x).2.2
          have HLx : Hid (∀ x : Later w2, Calls Tryd.prog 34 #[gv (z0, z1, z2), gv (y0, y1, y2)] x.1 fun e w' => e = .returned (.bool (L.gless (z0, z1, z2) (y0, y1, y2))) ∧ Ext x.1 w') := fun x => gless_any _ _ x.1
          clear hcz hf hk0
          cases hg : L.gless (z0, z1, z2) (y0, y1, y2) with
          | false =>
            have hfin : Hid (L.gcheck us l = false) := L.gcheck_no hkl (by rw [hgok.out, hg]; rfl)
            rw [hg] at HLx
            clear hg hgok
            repeat (refine mix_soft rfl (fun K hK => ?_); go_simp; (first | (refine hK _ ?_; clear hK K) | (apply Exists.intro; refine ⟨fun x => ?_, hK _ ?_⟩; (first | (go_at_call 36; with_reducible exact HFx.out x) | (go_at_call 34; with_reducible exact HLx.out x)); clear hK K)))
            refine mix_done fun w4 hb4 => ?_
            have hbz := below_next hb2 hb4
            clear e0 e1 e2 g0 g1 g2
            go_wp2_with fail
            go_ret
            exact ⟨by rw [hfin.out]; rfl, hbz⟩
          | true =>
            have hnext : Hid (∀ i, i < m + 1 + 1 → L.gok us l i = true) := fun i hi => by
              by_cases e : i = m + 1
              · subst e; rw [hgok.out, hg]; rfl
              · exact hok.out i (by omega)
            rw [hg] at HLx
            clear hg hgok
            repeat (refine mix_soft rfl (fun K hK => ?_); go_simp; (first | (refine hK _ ?_; clear hK K) | (apply Exists.intro; refine ⟨fun x => ?_, hK _ ?_⟩; (first | (go_at_call 36; with_reducible exact HFx.out x) | (go_at_call 34; with_reducible exact HLx.out x)); clear hK K)))
            refine mix_done fun w4 hb4 => ?_
            have hbz := below_next hb2 hb4
            clear e0 e1 e2 g0 g1 g2
            go_wp2_with fail
            go_roundw
            case rel => exact ⟨m + 1 + 1, by omega, by go_num, hnext, hbz⟩
            case measure => simp [intOf]; omega
    · obtain rfl : k = N := by omega
      have hfin : Hid (L.gcheck us l = decide ((k : Int) ≤ 64)) := by
        unfold Hid
        rw [L.gcheck_all fun i hi => hok.out i (by have := HN.out; omega), HN.out]
        congr 1
        apply propext
        omega
      go_wp2_with fail
      go_ret
      exact ⟨by rw [hfin.out]; go_num, hbr⟩
end Go.Proofs.YtnfhhhcbgipmcaaDoor
