/- What the reference's Put of grants returns. -/
import Derived.Test.YtnfhhhcbgipmcaaDoorGrPut
namespace Go.Proofs.YtnfhhhcbgipmcaaDoor
open Go Go.RowKit

theorem be1_b8 (n : Nat) : be 1 n = [L.b8 (n : Int)] := by
  have : UInt8.ofNat (n / 256 ^ 0) = L.b8 (n : Int) := by
    unfold L.b8
    apply UInt8.toNat_inj.1
    rw [UInt8.toNat_ofNat', UInt8.toNat_ofNat']
    simp
    omega
  show [UInt8.ofNat (n / 256 ^ 0)] = _
  rw [this]
theorem refNum1_any (y : Int) (w : World) : Calls Tryd.prog 61 #[.int .u64 (y % 18446744073709551616), .int .i64 1] w fun e w' => e = .returned (.string (str [L.b8 y])) ∧ Ext w w' := by
  have h := refNum_any (y % 18446744073709551616).toNat 1 (by omega) (by decide) (by decide) w
  rw [be1_b8, Int.toNat_of_nonneg (by omega)] at h
  have e : L.b8 (y % 18446744073709551616) = L.b8 y := by
    unfold L.b8
    congr 2
    omega
  rw [e] at h
  exact h

set_option maxHeartbeats 2000000 in
theorem refGput_any (v : Value) (l : List Gr) (w : World) (h : Gs w v l) :
    Calls Tryd.prog 47 #[v] w fun e w' => e = .returned (.string (str (L.gput l))) ∧ Below w.heap.size w w' := by
  have hbig := h.len
  have hput : L.gput l = be 1 (l.take 255).length ++ L.gbs (l.take 255) := rfl
  obtain ⟨ao, cap, rfl, hcap⟩ := h.shape
  by_cases h255 : l.length ≤ 255
  · have hA : decide (255 < (l.length : Int)) = false := by simp; omega
    rw [List.take_of_length_le h255] at hput
    have HG : Hid (Gs w (.slice ao l.length cap) l) := h
    have hput := Lib.hid hput
    have HNum := Lib.hid (refNum_any l.length 1 (by omega) (by decide) (by decide) w)
    rw [show ((1 : Nat) : Int) = 1 from rfl] at HNum
    generalize L.gput l = res at *
    clear h
    go_enter Tryd.func47, Tryd.ntmps47
    go_wp2_with fail
    refine HNum.out.mono ?_
    rintro e w1 ⟨rfl, hbr0⟩
    clear HNum
    go_wp2_with fail
    go_loopw [3, 4] (fun t i wr => ∃ k : Nat, k ≤ l.length ∧ i = .int .i64 k ∧ t = .string (str (be 1 l.length ++ L.gbs (l.take k))) ∧ Below w.heap.size w wr) (fun _ i _ => l.length - (intOf i).toNat)
    case atStart => exact ⟨0, by omega, rfl, by simp [L.gbs], hbr0⟩
    case round =>
      clear hbr0
      obtain ⟨k, hk, rfl, rfl, hbr⟩ := hrel
      by_cases hkl : k < l.length
      · have hkm : k < l.length := hkl
        have hkI : (k : Int) < (l.length : Int) := by omega
        have hz : (str (be 1 l.length ++ L.gbs (l.take k))).size ≤ 100000 := by
          rw [str_size, List.length_append, be_length, L.gbs_length, List.length_take]; omega
        have hs : Hid (str (be 1 l.length ++ L.gbs (l.take (k + 1))) = str (be 1 l.length ++ L.gbs (l.take k)) ++ (str [L.b8 l[k].1] ++ str [L.b8 l[k].2.1] ++ str [L.b8 l[k].2.2])) := by
          unfold Hid; rw [List.take_succ_eq_append_getElem hkm, L.gbs_snoc, ← List.append_assoc, str_append, str_append, str_append]; rfl
        obtain ⟨b, off, rfl, -⟩ := Gs.at3 (Three.Ss.below HG.out hbr) hkm
        go_wp2_with fail
        refine wp_region_mix ext_grow [(0, false), (1, false), (2, false), (3, false), (4, false), (5, false), (6, false), (7, false), (8, false), (9, false), (10, false), (11, false), (12, false), (13, false), (14, false), (15, false), (16, false), (17, false), (18, false), (19, false), (20, false), (21, false), (22, false), (23, false), (24, false), (25, false)] (by kernel_rfl) (by kernel_rfl) ?_
        have hb2 : Below w.heap.size w wr.drew := hbr.drew
        generalize wr.drew = w2 at *
        have hcz : Hid (∀ (x : Later w2), x.1.cell? ⟨b, off + k * 3, none⟩ = some (.int .i64 l[k].1) ∧ x.1.cell? ⟨b, off + k * 3 + 1, none⟩ = some (.int .i64 l[k].2.1) ∧ x.1.cell? ⟨b, off + k * 3 + 2, none⟩ = some (.int .i64 l[k].2.2)) := fun x => by
          obtain ⟨b', off', e, h⟩ := Gs.at3 (Three.Ss.below HG.out (below_next hb2 x.2)) hkm
          obtain ⟨rfl, rfl⟩ : b = b' ∧ off = off' := by simpa using e
          exact h k hkm
        obtain ⟨y, hy⟩ : ∃ y, l[k] = y := ⟨_, rfl⟩
        rw [hy] at hs hcz
        obtain ⟨y0, y1, y2⟩ := y
        simp only [] at hs
        have g0 : ∀ x : Later w2, x.1.cell? ⟨b, off + k * 3, none⟩ = some (.int .i64 y0) := fun x => (hcz.out x).1
        have g1 : ∀ x : Later w2, x.1.cell? ⟨b, off + k * 3 + 1, none⟩ = some (.int .i64 y1) := fun x => (hcz.out x).2.1
        have g2 : ∀ x : Later w2, x.1.cell? ⟨b, off + k * 3 + 2, none⟩ = some (.int .i64 y2) := fun x => (hcz.out x).2.2
        have N0 : Hid (∀ x : Later w2, Calls Tryd.prog 61 #[.int .u64 (y0 % 18446744073709551616), .int .i64 1] x.1 fun e w' => e = .returned (.string (str [L.b8 y0])) ∧ Ext x.1 w') := fun x => refNum1_any y0 x.1
        have N1 : Hid (∀ x : Later w2, Calls Tryd.prog 61 #[.int .u64 (y1 % 18446744073709551616), .int .i64 1] x.1 fun e w' => e = .returned (.string (str [L.b8 y1])) ∧ Ext x.1 w') := fun x => refNum1_any y1 x.1
        have N2 : Hid (∀ x : Later w2, Calls Tryd.prog 61 #[.int .u64 (y2 % 18446744073709551616), .int .i64 1] x.1 fun e w' => e = .returned (.string (str [L.b8 y2])) ∧ Ext x.1 w') := fun x => refNum1_any y2 x.1
        have hwu : ∀ x : Int, IntKind.u64.wrap x = x % 18446744073709551616 := fun x => IntKind.wrap_u64 x
        have z0 : (str [L.b8 y0]).size = 1 := by rw [str_size]; rfl
        have z1 : (str [L.b8 y1]).size = 1 := by rw [str_size]; rfl
        have z2 : (str [L.b8 y2]).size = 1 := by rw [str_size]; rfl
        have z01 : (str [L.b8 y0] ++ str [L.b8 y1]).size = 2 := by rw [str_append, str_size]; rfl
        have z012 : (str [L.b8 y0] ++ str [L.b8 y1] ++ str [L.b8 y2]).size = 3 := by rw [str_append, str_append, str_size]; rfl
        generalize str [L.b8 y0] = t0 at *
        generalize str [L.b8 y1] = t1 at *
        generalize str [L.b8 y2] = t2 at *
        generalize str (be 1 l.length ++ L.gbs (l.take k)) = s0 at *
        have hkge : (0 : Int) ≤ (k : Int) := by omega
        have hzz : ¬ (9223372036854775807 < s0.size + 3) := by omega
        clear hcz hy
        repeat (refine mix_soft rfl (fun K hK => ?_); go_simp; (first | (refine hK _ ?_; clear hK K) | (apply Exists.intro; refine ⟨fun x => ?_, hK _ ?_⟩; (first | (go_at_call 61; (first | with_reducible exact N0.out x | with_reducible exact N1.out x | with_reducible exact N2.out x))); clear hK K)))
        refine mix_done fun w4 hb4 => ?_
        have hbz := below_next hb2 hb4
        clear g0 g1 g2 hb2 z0 z1 z2 z01 z012 hz hzz
        go_wp2_with fail
        go_roundw
        case rel => exact ⟨k + 1, by omega, by go_num, by rw [hs.out], hbz⟩
        case measure => simp [intOf]; omega
      · obtain rfl : k = l.length := by omega
        have hfin : Hid (be 1 l.length ++ L.gbs (l.take l.length) = res) := by unfold Hid; rw [hput.out, List.take_of_length_le (Nat.le_refl _)]
        go_wp2_with fail
        go_ret
        exact ⟨by rw [← hfin.out]; rfl, hbr⟩
  · have hB : decide (255 < (l.length : Int)) = true := by simp; omega
    have hcapB : (255 : Int) ≤ (cap : Int) := by omega
    obtain ⟨m, hm⟩ : ∃ m, l.take 255 = m := ⟨_, rfl⟩
    have hml : m.length = 255 := by rw [← hm, List.length_take]; omega
    rw [hm, hml] at hput
    obtain ⟨vm, hvm, hrun⟩ := run_take (P := Tryd.prog) (t := 44) Tryd.underlying44 infoGr h .i64 255 (by omega)
    rw [show ((255 : Nat) : Int) = 255 from rfl] at hrun
    rw [GR.cells_take, hm] at hvm
    obtain ⟨aom, capm, rfl, -⟩ := Sl.shape hvm
    have HG : Hid (Gs w (.slice aom 255 capm) m) := by unfold Hid Gs Three.Ss; rw [hml]; exact hvm
    have HM := Lib.hid hml
    have hput := Lib.hid hput
    have HNum := Lib.hid (refNum_any 255 1 (by decide) (by decide) (by decide) w)
    rw [show ((1 : Nat) : Int) = 1 from rfl, show ((255 : Nat) : Int) = 255 from rfl] at HNum
    generalize L.gput l = res at *
    clear hvm h hm
    go_enter Tryd.func47, Tryd.ntmps47
    go_wp2_with fail
    refine HNum.out.mono ?_
    rintro e w1 ⟨rfl, hbr0⟩
    clear HNum
    go_wp2_with fail
    go_loopw [3, 4] (fun t i wr => ∃ k : Nat, k ≤ 255 ∧ i = .int .i64 k ∧ t = .string (str (be 1 255 ++ L.gbs (m.take k))) ∧ Below w.heap.size w wr) (fun _ i _ => 255 - (intOf i).toNat)
    case atStart => exact ⟨0, by omega, rfl, by simp [L.gbs], hbr0⟩
    case round =>
      clear hbr0
      obtain ⟨k, hk, rfl, rfl, hbr⟩ := hrel
      by_cases hkl : k < 255
      · have hkm : k < m.length := by rw [HM.out]; exact hkl
        have hkI : (k : Int) < 255 := by omega
        have hz : (str (be 1 255 ++ L.gbs (m.take k))).size ≤ 100000 := by
          rw [str_size, List.length_append, be_length, L.gbs_length, List.length_take]; omega
        have hs : Hid (str (be 1 255 ++ L.gbs (m.take (k + 1))) = str (be 1 255 ++ L.gbs (m.take k)) ++ (str [L.b8 m[k].1] ++ str [L.b8 m[k].2.1] ++ str [L.b8 m[k].2.2])) := by
          unfold Hid; rw [List.take_succ_eq_append_getElem hkm, L.gbs_snoc, ← List.append_assoc, str_append, str_append, str_append]; rfl
        obtain ⟨b, off, rfl, -⟩ := Gs.at3 (Three.Ss.below HG.out hbr) hkm
        go_wp2_with fail
        refine wp_region_mix ext_grow [(0, false), (1, false), (2, false), (3, false), (4, false), (5, false), (6, false), (7, false), (8, false), (9, false), (10, false), (11, false), (12, false), (13, false), (14, false), (15, false), (16, false), (17, false), (18, false), (19, false), (20, false), (21, false), (22, false), (23, false), (24, false), (25, false)] (by kernel_rfl) (by kernel_rfl) ?_
        have hb2 : Below w.heap.size w wr.drew := hbr.drew
        generalize wr.drew = w2 at *
        have hcz : Hid (∀ (x : Later w2), x.1.cell? ⟨b, off + k * 3, none⟩ = some (.int .i64 m[k].1) ∧ x.1.cell? ⟨b, off + k * 3 + 1, none⟩ = some (.int .i64 m[k].2.1) ∧ x.1.cell? ⟨b, off + k * 3 + 2, none⟩ = some (.int .i64 m[k].2.2)) := fun x => by
          obtain ⟨b', off', e, h⟩ := Gs.at3 (Three.Ss.below HG.out (below_next hb2 x.2)) hkm
          obtain ⟨rfl, rfl⟩ : b = b' ∧ off = off' := by simpa using e
          exact h k hkm
        obtain ⟨y, hy⟩ : ∃ y, m[k] = y := ⟨_, rfl⟩
        rw [hy] at hs hcz
        obtain ⟨y0, y1, y2⟩ := y
        simp only [] at hs
        have g0 : ∀ x : Later w2, x.1.cell? ⟨b, off + k * 3, none⟩ = some (.int .i64 y0) := fun x => (hcz.out x).1
        have g1 : ∀ x : Later w2, x.1.cell? ⟨b, off + k * 3 + 1, none⟩ = some (.int .i64 y1) := fun x => (hcz.out x).2.1
        have g2 : ∀ x : Later w2, x.1.cell? ⟨b, off + k * 3 + 2, none⟩ = some (.int .i64 y2) := fun x => (hcz.out x).2.2
        have N0 : Hid (∀ x : Later w2, Calls Tryd.prog 61 #[.int .u64 (y0 % 18446744073709551616), .int .i64 1] x.1 fun e w' => e = .returned (.string (str [L.b8 y0])) ∧ Ext x.1 w') := fun x => refNum1_any y0 x.1
        have N1 : Hid (∀ x : Later w2, Calls Tryd.prog 61 #[.int .u64 (y1 % 18446744073709551616), .int .i64 1] x.1 fun e w' => e = .returned (.string (str [L.b8 y1])) ∧ Ext x.1 w') := fun x => refNum1_any y1 x.1
        have N2 : Hid (∀ x : Later w2, Calls Tryd.prog 61 #[.int .u64 (y2 % 18446744073709551616), .int .i64 1] x.1 fun e w' => e = .returned (.string (str [L.b8 y2])) ∧ Ext x.1 w') := fun x => refNum1_any y2 x.1
        have hwu : ∀ x : Int, IntKind.u64.wrap x = x % 18446744073709551616 := fun x => IntKind.wrap_u64 x
        have z0 : (str [L.b8 y0]).size = 1 := by rw [str_size]; rfl
        have z1 : (str [L.b8 y1]).size = 1 := by rw [str_size]; rfl
        have z2 : (str [L.b8 y2]).size = 1 := by rw [str_size]; rfl
        have z01 : (str [L.b8 y0] ++ str [L.b8 y1]).size = 2 := by rw [str_append, str_size]; rfl
        have z012 : (str [L.b8 y0] ++ str [L.b8 y1] ++ str [L.b8 y2]).size = 3 := by rw [str_append, str_append, str_size]; rfl
        generalize str [L.b8 y0] = t0 at *
        generalize str [L.b8 y1] = t1 at *
        generalize str [L.b8 y2] = t2 at *
        generalize str (be 1 255 ++ L.gbs (m.take k)) = s0 at *
        have hkge : (0 : Int) ≤ (k : Int) := by omega
        have hzz : ¬ (9223372036854775807 < s0.size + 3) := by omega
        clear hcz hy
        repeat (refine mix_soft rfl (fun K hK => ?_); go_simp; (first | (refine hK _ ?_; clear hK K) | (apply Exists.intro; refine ⟨fun x => ?_, hK _ ?_⟩; (first | (go_at_call 61; (first | with_reducible exact N0.out x | with_reducible exact N1.out x | with_reducible exact N2.out x))); clear hK K)))
        refine mix_done fun w4 hb4 => ?_
        have hbz := below_next hb2 hb4
        clear g0 g1 g2 hb2 z0 z1 z2 z01 z012 hz hzz
        go_wp2_with fail
        go_roundw
        case rel => exact ⟨k + 1, by omega, by go_num, by rw [hs.out], hbz⟩
        case measure => simp [intOf]; omega
      · obtain rfl : k = 255 := by omega
        have hfin : Hid (be 1 255 ++ L.gbs (m.take 255) = res) := by unfold Hid; rw [hput.out, List.take_of_length_le (by rw [HM.out]; exact Nat.le_refl _)]
        go_wp2_with fail
        go_ret
        exact ⟨by rw [← hfin.out]; rfl, hbr⟩
end Go.Proofs.YtnfhhhcbgipmcaaDoor
