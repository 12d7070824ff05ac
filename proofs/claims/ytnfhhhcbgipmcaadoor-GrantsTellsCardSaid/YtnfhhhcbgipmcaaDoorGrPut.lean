/- What grants.Put returns. -/
import Derived.Test.YtnfhhhcbgipmcaaDoorSrc3
import Derived.Test.YtnfhhhcbgipmcaaDoorClone
import Derived.Test.YtnfhhhcbgipmcaaDoorRefNum
import Derived.Test.YtnfhhhcbgipmcaaDoorTakePlain
namespace Go.Proofs.YtnfhhhcbgipmcaaDoor
open Go Go.RowKit

namespace L
/-- An int's low byte. -/
def b8 (x : Int) : UInt8 := UInt8.ofNat (x % 256).toNat
def gb (g : Gr) : List UInt8 := [b8 g.1, b8 g.2.1, b8 g.2.2]
def gbs (l : List Gr) : List UInt8 := l.flatMap gb
theorem gbs_length : ∀ l, (gbs l).length = 3 * l.length
  | [] => rfl
  | g :: l => by
    have := gbs_length l
    unfold gbs at this ⊢
    rw [List.flatMap_cons, List.length_append, this, List.length_cons]
    simp [gb]; omega
theorem gbs_snoc (l : List Gr) (g : Gr) : gbs (l ++ [g]) = gbs l ++ gb g := by simp [gbs]
/-- The bytes of grants, 255 at most. -/
def gput (l : List Gr) : List UInt8 := be 1 (l.take 255).length ++ gbs (l.take 255)
end L
theorem b8_cell (x : Int) : Value.int .u8 (x % 256) = .int .u8 ((L.b8 x).toNat : Int) := by
  unfold L.b8
  rw [UInt8.toNat_ofNat']
  congr 1
  omega
theorem gb_cells (a0 a1 a2 : Int) : #[Value.int .u8 (a0 % 256), .int .u8 (a1 % 256), .int .u8 (a2 % 256)] = (byteCells (L.gb (a0, a1, a2))).toArray := by
  rw [b8_cell, b8_cell, b8_cell]
  rfl
theorem be1_cell (n : Nat) : #[Value.int .u8 ((n : Int) % 256)] = (byteCells (be 1 n)).toArray := by
  rw [b8_cell]
  have : L.b8 (n : Int) = UInt8.ofNat (n / 256 ^ 0) := by
    unfold L.b8
    apply UInt8.toNat_inj.1
    rw [UInt8.toNat_ofNat', UInt8.toNat_ofNat']
    simp
    omega
  rw [this]
  rfl

set_option maxHeartbeats 1000000 in
theorem gput_any (v : Value) (l : List Gr) (w : World) (h : Gs w v l) :
    Calls Tryd.prog 46 #[v] w fun e w' => ∃ v', e = .returned v' ∧ w'.ownsRow w.heap.size 5 1 v' (L.gput l).length (byteCells (L.gput l)) ∧ Below w.heap.size w w' := by
  have hbig := h.len
  have hput : L.gput l = be 1 (l.take 255).length ++ L.gbs (l.take 255) := rfl
  obtain ⟨ao, cap, rfl, hcap⟩ := h.shape
  by_cases h255 : l.length ≤ 255
  · have hA : ¬ (255 < (l.length : Int)) := by omega
    rw [List.take_of_length_le h255] at hput
    obtain ⟨vm, hvm, hrun⟩ := run_take (P := Tryd.prog) (t := 44) Tryd.underlying44 infoGr h .i64 l.length (Nat.le_refl _)
    rw [GR.cells_take, List.take_length] at hvm
    have HG : Hid (Gs w vm l) := hvm
    obtain ⟨aom, capm, rfl, -⟩ := Three.Ss.shape HG.out
    have hput := Lib.hid hput
    generalize L.gput l = res at *
    clear hvm h
    go_enter Tryd.func46, Tryd.ntmps46
    go_wp2_with fail
    have HO : Hid ((w.alloc (.cells #[.int .u8 (l.length : Int)] 5)).ownsRow w.heap.size 5 1 (.slice (some ⟨w.heap.size, 0, none⟩) 1 1) (1 + 3 * 0) (byteCells (be 1 l.length ++ L.gbs (l.take 0)))) := by
      have e : #[Value.int .u8 (l.length : Int)] = (byteCells (be 1 l.length)).toArray := by rw [← be1_cell, show ((l.length : Nat) : Int) % 256 = (l.length : Int) by omega]
      unfold Hid
      rw [e]
      exact World.ownsRow_lit (base := w.heap.size) (e := 5) (size := 1) w (byteCells (be 1 l.length)).toArray 1 (Nat.le_refl _) (by decide) rfl
    have hbr0 : Below w.heap.size w (w.alloc (.cells #[.int .u8 (l.length : Int)] 5)) := (Below.refl _ _).alloc (Nat.le_refl _) _
    generalize w.alloc (.cells #[.int .u8 (l.length : Int)] 5) = w1 at *
    go_loopw [3, 17] (fun t i wr => ∃ k : Nat, k ≤ l.length ∧ i = .int .i64 k ∧ Hid (wr.ownsRow w.heap.size 5 1 t (1 + 3 * k) (byteCells (be 1 l.length ++ L.gbs (l.take k)))) ∧ Below w.heap.size w wr) (fun _ i _ => l.length - (intOf i).toNat)
    case atStart => exact ⟨0, by omega, rfl, HO, hbr0⟩
    case round =>
      clear hbr0 HO
      obtain ⟨k, hk, rfl, hr, hbr⟩ := hrel
      by_cases hkl : k < l.length
      · have hkm : k < l.length := hkl
        have hkI : (k : Int) < (l.length : Int) := by omega
        obtain ⟨b, off, rfl, hc⟩ := Gs.at3 (Three.Ss.below HG.out hbr) hkm
        obtain ⟨p0, p1, p2⟩ := hc k hkm
        have hs : Hid (L.gbs (l.take (k + 1)) = L.gbs (l.take k) ++ L.gb l[k]) := by unfold Hid; rw [List.take_succ_eq_append_getElem hkm, L.gbs_snoc]
        obtain ⟨y, hy⟩ : ∃ y, l[k] = y := ⟨_, rfl⟩
        rw [hy] at p0 p1 p2 hs
        clear hy hc
        obtain ⟨y0, y1, y2⟩ := y
        simp only [] at p0 p1 p2
        have hb2 := hbr.alloc hbr.size (.cells #[.int .i64 y0, .int .i64 y1, .int .i64 y2] 47)
        have hb3 := hb2.alloc hb2.size (.cells #[.int .u8 (y0 % 256), .int .u8 (y1 % 256), .int .u8 (y2 % 256)] 5)
        have HO3 := Lib.hid ((hr.out.alloc (.cells #[.int .i64 y0, .int .i64 y1, .int .i64 y2] 47)).alloc (.cells #[.int .u8 (y0 % 256), .int .u8 (y1 % 256), .int .u8 (y2 % 256)] 5))
        have HB3 : Hid (Sl ((wr.alloc (.cells #[.int .i64 y0, .int .i64 y1, .int .i64 y2] 47)).alloc (.cells #[.int .u8 (y0 % 256), .int .u8 (y1 % 256), .int .u8 (y2 % 256)] 5)) 1 3 (.slice (some ⟨(wr.alloc (.cells #[.int .i64 y0, .int .i64 y1, .int .i64 y2] 47)).heap.size, 0, none⟩) 3 3) (byteCells (L.gb (y0, y1, y2)))) := Bs.lit _ 3 rfl (by decide) (gb_cells y0 y1 y2)
        rw [World.size_alloc] at HB3
        have hwu : ∀ x : Int, IntKind.u8.wrap x = x % 256 := fun x => IntKind.wrap_u8 x
        go_wp2_with (at_builtin; go_must (refine wpList_append_sl rfl _ _ 33 rfl w.heap.size 5 (.int .u8 0) 1 1 Tryd.underlying33 infoU8 rfl (by decide) _ _ _ rfl HO3.out _ 3 (byteCells (L.gb (y0, y1, y2))) rfl HB3.out (byteCells_oneCell _) (by unfold maxLen; omega) (by omega) hb3.size ?_))
        intro v4 w4 hown4 hgrow _
        have hb4 := hb3.grown hgrow hb3.size (ownBlock_ge HO3.out)
        have HO4 : Hid (w4.ownsRow w.heap.size 5 1 v4 (1 + 3 * (k + 1)) (byteCells (be 1 l.length ++ L.gbs (l.take (k + 1))))) := by
          unfold Hid
          rw [hs.out, ← List.append_assoc, ← byteCells_append, show 1 + 3 * (k + 1) = 1 + 3 * k + 3 by omega]
          exact hown4
        clear hown4 hgrow HO3 HB3 hb3 hb2 hs hr
        go_wp2_with fail
        go_roundw
        case rel => exact ⟨k + 1, by omega, by go_num, HO4, hb4⟩
        case measure => simp [intOf]; omega
      · obtain rfl : k = l.length := by omega
        have hfin : Hid (be 1 l.length ++ L.gbs (l.take l.length) = res) := by unfold Hid; rw [hput.out, List.take_of_length_le (Nat.le_refl _)]
        have hfl : Hid (1 + 3 * l.length = res.length) := by unfold Hid; rw [hput.out, List.length_append, be_length, L.gbs_length]
        go_wp2_with fail
        go_ret
        exact ⟨_, rfl, by rw [← hfl.out, ← hfin.out]; exact hr.out, hbr⟩
  · have hB : 255 < (l.length : Int) := by omega
    have hcapB : (255 : Int) ≤ (cap : Int) := by omega
    obtain ⟨m, hm⟩ : ∃ m, l.take 255 = m := ⟨_, rfl⟩
    have hml : m.length = 255 := by rw [← hm, List.length_take]; omega
    rw [hm, hml] at hput
    obtain ⟨vm, hvm, hrun⟩ := run_take (P := Tryd.prog) (t := 44) Tryd.underlying44 infoGr h .i64 255 (by omega)
    rw [show ((255 : Nat) : Int) = 255 from rfl] at hrun
    rw [GR.cells_take, hm] at hvm
    obtain ⟨aom, capm, rfl, -⟩ := Sl.shape hvm
    have HG : Hid (Gs w (.slice aom 255 capm) m) := by unfold Hid Gs Three.Ss; rw [hml]; exact hvm
    have HM := Lib.hid hml
    have hput := Lib.hid hput
    generalize L.gput l = res at *
    clear hvm h hm hml
    go_enter Tryd.func46, Tryd.ntmps46
    go_wp2_with fail
    have HO : Hid ((w.alloc (.cells #[.int .u8 255] 5)).ownsRow w.heap.size 5 1 (.slice (some ⟨w.heap.size, 0, none⟩) 1 1) (1 + 3 * 0) (byteCells (be 1 255 ++ L.gbs (m.take 0)))) := by
      have e : #[Value.int .u8 255] = (byteCells (be 1 255)).toArray := by rw [← be1_cell, show ((255 : Nat) : Int) % 256 = 255 by omega]
      unfold Hid
      rw [e]
      exact World.ownsRow_lit (base := w.heap.size) (e := 5) (size := 1) w (byteCells (be 1 255)).toArray 1 (Nat.le_refl _) (by decide) rfl
    have hbr0 : Below w.heap.size w (w.alloc (.cells #[.int .u8 255] 5)) := (Below.refl _ _).alloc (Nat.le_refl _) _
    generalize w.alloc (.cells #[.int .u8 255] 5) = w1 at *
    go_loopw [3, 17] (fun t i wr => ∃ k : Nat, k ≤ 255 ∧ i = .int .i64 k ∧ Hid (wr.ownsRow w.heap.size 5 1 t (1 + 3 * k) (byteCells (be 1 255 ++ L.gbs (m.take k)))) ∧ Below w.heap.size w wr) (fun _ i _ => 255 - (intOf i).toNat)
    case atStart => exact ⟨0, by omega, rfl, HO, hbr0⟩
    case round =>
      clear hbr0 HO
      obtain ⟨k, hk, rfl, hr, hbr⟩ := hrel
      by_cases hkl : k < 255
      · have hkm : k < m.length := by rw [HM.out]; exact hkl
        have hkI : (k : Int) < 255 := by omega
        obtain ⟨b, off, rfl, hc⟩ := Gs.at3 (Three.Ss.below HG.out hbr) hkm
        obtain ⟨p0, p1, p2⟩ := hc k hkm
        have hs : Hid (L.gbs (m.take (k + 1)) = L.gbs (m.take k) ++ L.gb m[k]) := by unfold Hid; rw [List.take_succ_eq_append_getElem hkm, L.gbs_snoc]
        obtain ⟨y, hy⟩ : ∃ y, m[k] = y := ⟨_, rfl⟩
        rw [hy] at p0 p1 p2 hs
        clear hy hc
        obtain ⟨y0, y1, y2⟩ := y
        simp only [] at p0 p1 p2
        have hb2 := hbr.alloc hbr.size (.cells #[.int .i64 y0, .int .i64 y1, .int .i64 y2] 47)
        have hb3 := hb2.alloc hb2.size (.cells #[.int .u8 (y0 % 256), .int .u8 (y1 % 256), .int .u8 (y2 % 256)] 5)
        have HO3 := Lib.hid ((hr.out.alloc (.cells #[.int .i64 y0, .int .i64 y1, .int .i64 y2] 47)).alloc (.cells #[.int .u8 (y0 % 256), .int .u8 (y1 % 256), .int .u8 (y2 % 256)] 5))
        have HB3 : Hid (Sl ((wr.alloc (.cells #[.int .i64 y0, .int .i64 y1, .int .i64 y2] 47)).alloc (.cells #[.int .u8 (y0 % 256), .int .u8 (y1 % 256), .int .u8 (y2 % 256)] 5)) 1 3 (.slice (some ⟨(wr.alloc (.cells #[.int .i64 y0, .int .i64 y1, .int .i64 y2] 47)).heap.size, 0, none⟩) 3 3) (byteCells (L.gb (y0, y1, y2)))) := Bs.lit _ 3 rfl (by decide) (gb_cells y0 y1 y2)
        rw [World.size_alloc] at HB3
        have hwu : ∀ x : Int, IntKind.u8.wrap x = x % 256 := fun x => IntKind.wrap_u8 x
        go_wp2_with (at_builtin; go_must (refine wpList_append_sl rfl _ _ 33 rfl w.heap.size 5 (.int .u8 0) 1 1 Tryd.underlying33 infoU8 rfl (by decide) _ _ _ rfl HO3.out _ 3 (byteCells (L.gb (y0, y1, y2))) rfl HB3.out (byteCells_oneCell _) (by unfold maxLen; omega) (by omega) hb3.size ?_))
        intro v4 w4 hown4 hgrow _
        have hb4 := hb3.grown hgrow hb3.size (ownBlock_ge HO3.out)
        have HO4 : Hid (w4.ownsRow w.heap.size 5 1 v4 (1 + 3 * (k + 1)) (byteCells (be 1 255 ++ L.gbs (m.take (k + 1))))) := by
          unfold Hid
          rw [hs.out, ← List.append_assoc, ← byteCells_append, show 1 + 3 * (k + 1) = 1 + 3 * k + 3 by omega]
          exact hown4
        clear hown4 hgrow HO3 HB3 hb3 hb2 hs hr
        go_wp2_with fail
        go_roundw
        case rel => exact ⟨k + 1, by omega, by go_num, HO4, hb4⟩
        case measure => simp [intOf]; omega
      · obtain rfl : k = 255 := by omega
        have hfin : Hid (be 1 255 ++ L.gbs (m.take 255) = res) := by unfold Hid; rw [hput.out, List.take_of_length_le (by rw [HM.out]; exact Nat.le_refl _)]
        have hfl : Hid (1 + 3 * 255 = res.length) := by unfold Hid; rw [hput.out, List.length_append, be_length, L.gbs_length, HM.out]
        go_wp2_with fail
        go_ret
        exact ⟨_, rfl, by rw [← hfl.out, ← hfin.out]; exact hr.out, hbr⟩
end Go.Proofs.YtnfhhhcbgipmcaaDoor
