/- The example of layer 4 answers as the document says. -/
import Derived.Test.YtnfhhhcbgipmcaaDoorSrc4
import Derived.Test.YtnfhhhcbgipmcaaDoorGrPut
import Derived.Test.YtnfhhhcbgipmcaaDoorGrGet
import Derived.Test.YtnfhhhcbgipmcaaDoorGr4
import Derived.Test.YtnfhhhcbgipmcaaDoorAwThree
namespace Go.Proofs.YtnfhhhcbgipmcaaDoor
open Go Go.RowKit

def exG : Gr := (1, 1, 0)
theorem exLat : L.Lat [3, 2] := L.check_iff.1 exCheck
theorem lt2 {n i : Nat} (hn : n < 4) (h : n.testBit i = true) : i < 2 := by
  rcases Nat.lt_or_ge i 2 with h' | h'
  · exact h'
  · rw [Nat.testBit_lt_two_pow (Nat.lt_of_lt_of_le hn (Nat.pow_le_pow_right (show 0 < 2 by decide) h'))] at h; cases h
theorem exFits : L.fits [3, 2] exG = true := by decide
theorem exSrc : L.srcs [3, 2] [exG] 1 = 3 := by
  refine (L.srcs_eq (fun i hi => ?_) (fun b hb h => ?_) ⟨fun a b hb h => ?_, fun g hg hf h => ?_⟩).symm
  · have h0 : L.Src [3, 2] [exG] 1 0 := .base (by decide) (by decide)
    have := lt2 (by decide) hi
    match i, this with
    | 0, _ => exact h0
    | 1, _ => exact .actor (g := exG) (List.mem_singleton.2 rfl) exFits h0
  · have : b < 2 := hb
    match b, this with
    | 0, _ => decide
    | 1, _ => decide
  · have : a < 2 := L.leq_ltL h
    match a, this with
    | 0, _ => decide
    | 1, _ => decide
  · rw [List.mem_singleton] at hg
    subst hg
    decide
theorem exSrc0 : L.srcs [3, 2] [] 1 = 1 := by
  refine (L.srcs_eq (fun i hi => ?_) (fun b hb h => ?_) ⟨fun a b hb h => ?_, fun g hg hf h => (by cases hg)⟩).symm
  · have := lt2 (by decide) hi
    match i, this with
    | 0, _ => exact .base (by decide) (by decide)
    | 1, _ => exact absurd hi (by decide)
  · exact h
  · have hb2 := lt2 (by decide) hb
    have ha : a < 2 := L.leq_ltL h
    match a, b, ha, hb2 with
    | 0, _, _, _ => decide
    | 1, 0, _, _ => exact absurd h (by decide)
    | 1, 1, _, _ => exact absurd hb (by decide)
theorem exFits2 : L.fits [3, 2] (1, 0, 1) = false := by decide
theorem exGcheck : L.gcheck [3, 2] [exG] = true := by decide
theorem exGcheck2 : L.gcheck [3, 2] [exG, exG] = false := by decide
theorem exPut : L.gput [exG] = [1, 1, 1, 0] := by decide
theorem exGet : L.gget [1, 1, 1, 0] = [exG] := by decide
theorem exGetE : L.ggetE [1, 1, 1, 0] = 0 := by decide
theorem exMay : [exG].contains exG = true := by decide
theorem exLess : L.gless (0, 0, 0) exG = true := by decide
theorem Gs.lit1 (w : World) : Gs (w.alloc (.cells #[.int .i64 1, .int .i64 1, .int .i64 0] 47)) (.slice (some ⟨w.heap.size, 0, none⟩) 1 1) [exG] := Sl.lit w 47 3 1 #[.int .i64 1, .int .i64 1, .int .i64 0] (0, 0) rfl (by decide)
theorem Gs.lit2 (w : World) : Gs (w.alloc (.cells #[.int .i64 1, .int .i64 1, .int .i64 0, .int .i64 1, .int .i64 1, .int .i64 0] 47)) (.slice (some ⟨w.heap.size, 0, none⟩) 2 2) [exG, exG] := Sl.lit w 47 3 2 #[.int .i64 1, .int .i64 1, .int .i64 0, .int .i64 1, .int .i64 1, .int .i64 0] (0, 0) rfl (by decide)

set_option maxRecDepth 4000 in
set_option maxHeartbeats 2000000 in
theorem aw4_any (w : World) (ht : DTab w) :
    Calls Tryd.prog 33 #[] w fun e w' => e = .returned (.bool true) ∧ Below w.heap.size w w' := by
  have hb1 : Below w.heap.size w (w.alloc (.cells #[.int .u64 3, .int .u64 2] 25)) := (Below.refl _ _).alloc (Nat.le_refl _) _
  have hu1 : Us (w.alloc (.cells #[.int .u64 3, .int .u64 2] 25)) (.slice (some ⟨w.heap.size, 0, none⟩) 2 2) [3, 2] := Us.lit [3, 2] 2 rfl (by decide) rfl
  have hsz : (w.alloc (.cells #[.int .u64 3, .int .u64 2] 25)).heap.size = w.heap.size + 1 := by simp
  go_enter Tryd.func33, Tryd.ntmps33
  go_wp2_with fail
  generalize w.alloc (.cells #[.int .u64 3, .int .u64 2] 25) = w1 at *
  have hX : Bx (w1.alloc (.cells #[.int .i64 1, .int .i64 1, .int .i64 0] 47)) w1.heap.size 47 (.int .i64 1) (.int .i64 1) (.int .i64 0) := heap_alloc_new _ _
  have hb2 : Below w.heap.size w (w1.alloc (.cells #[.int .i64 1, .int .i64 1, .int .i64 0] 47)) := hb1.alloc hb1.size _
  have hu2 : Us (w1.alloc (.cells #[.int .i64 1, .int .i64 1, .int .i64 0] 47)) (.slice (some ⟨w.heap.size, 0, none⟩) 2 2) [3, 2] := hu1.below ((Below.refl _ w1).alloc (Nat.le_refl _) _)
  have hsz2 : (w1.alloc (.cells #[.int .i64 1, .int .i64 1, .int .i64 0] 47)).heap.size = w.heap.size + 1 + 1 := by simp; omega
  rw [hsz] at hX
  clear hb1 hu1
  generalize w1.alloc (.cells #[.int .i64 1, .int .i64 1, .int .i64 0] 47) = w2 at *
  obtain ⟨B, hB⟩ : ∃ B, w.heap.size = B := ⟨_, rfl⟩
  rw [hB] at hX hu2 hsz2 ⊢
  clear hsz w1 hB
  have HX := Lib.hid (fun W (hW : Below w2.heap.size w2 W) => (hX.later hW).cells)
  have HU := Lib.hid (fun W (hW : Below w2.heap.size w2 W) => hu2.below hW)
  have HD := Lib.hid (fun W (hW : Below w2.heap.size w2 W) => (ht.below hb2).below hW)
  have HB := Lib.hid hb2
  have hb : Below w2.heap.size w2 w2 := Below.refl _ _
  clear hX hu2 ht hb2
  have s := Lib.hid (gput_any _ _ _ (Gs.lit1 w2))
  rw [exPut, hsz2] at s
  have hb' : Below w2.heap.size w2 (w2.alloc (.cells #[.int .i64 1, .int .i64 1, .int .i64 0] 47)) := hb.alloc hb.size _
  replace hsz2 := Lib.hid hsz2
  refine s.out.mono ?_
  rintro e w4 ⟨v4, rfl, hown, hx⟩
  have hbs := Lib.hid (Bs.of_owns hown)
  replace hb := below_next hb' hx
  clear hx hown s hb'
  have s := Lib.hid (gget_any _ _ w4 hbs.out (by decide))
  rw [exGet, exGetE] at s
  go_wp2_with fail
  refine s.out.mono ?_
  rintro e w5 ⟨v5, rfl, hg5, hx⟩
  have hG5 := Lib.hid hg5
  replace hb := below_next hb hx
  have hb5 := Lib.hid hb
  clear hx hg5 s hbs
  have hc := Lib.hid (Below.refl w5.heap.size w5)
  have s := Lib.hid (fits_any _ _ exG w5 (HU.out _ hb) exSmall)
  rw [exFits] at s
  obtain ⟨c0, c1, c2⟩ := HX.out _ hb
  go_wp2_with fail
  refine s.out.mono ?_
  rintro e w6 ⟨rfl, hx⟩
  replace hb := below_next hb hx
  replace hc := Lib.hid (below_next hc.out hx)
  clear hx s c0 c1 c2
  have s := Lib.hid (fits_any _ _ (1, 0, 1) w6 (HU.out _ hb) exSmall)
  rw [exFits2] at s
  obtain ⟨c0, c1, c2⟩ := HX.out _ hb
  go_wp2_with fail
  refine s.out.mono ?_
  rintro e w7 ⟨rfl, hx⟩
  replace hb := below_next hb hx
  replace hc := Lib.hid (below_next hc.out hx)
  clear hx s c0 c1 c2
  have s := Lib.hid (gcheck_any _ _ _ _ _ (HU.out _ (hb.alloc hb.size (.cells #[.int .i64 1, .int .i64 1, .int .i64 0] 47))) exSmall (Gs.lit1 w7))
  rw [exGcheck] at s
  have hb' := hb.alloc hb.size (.cells #[.int .i64 1, .int .i64 1, .int .i64 0] 47)
  replace hc := Lib.hid (hc.out.alloc hc.out.size (.cells #[.int .i64 1, .int .i64 1, .int .i64 0] 47))
  obtain ⟨c0, c1, c2⟩ := HX.out _ hb
  go_wp2_with fail
  refine s.out.mono ?_
  rintro e w8 ⟨rfl, hx⟩
  replace hb := below_next hb' hx
  replace hc := Lib.hid (below_next hc.out hx)
  clear hx s c0 c1 c2 hb'
  have s := Lib.hid (gcheck_any _ _ _ _ _ (HU.out _ (hb.alloc hb.size (.cells #[.int .i64 1, .int .i64 1, .int .i64 0, .int .i64 1, .int .i64 1, .int .i64 0] 47))) exSmall (Gs.lit2 w8))
  rw [exGcheck2] at s
  have hb' := hb.alloc hb.size (.cells #[.int .i64 1, .int .i64 1, .int .i64 0, .int .i64 1, .int .i64 1, .int .i64 0] 47)
  replace hc := Lib.hid (hc.out.alloc hc.out.size (.cells #[.int .i64 1, .int .i64 1, .int .i64 0, .int .i64 1, .int .i64 1, .int .i64 0] 47))
  obtain ⟨c0, c1, c2⟩ := HX.out _ hb
  go_wp2_with fail
  refine s.out.mono ?_
  rintro e w9 ⟨rfl, hx⟩
  replace hb := below_next hb' hx
  replace hc := Lib.hid (below_next hc.out hx)
  clear hx s c0 c1 c2 hb'
  have s := Lib.hid (sources_any _ _ _ _ 1 _ (HU.out _ (hb.alloc hb.size (.cells #[.int .i64 1, .int .i64 1, .int .i64 0] 47))) exSmall (Gs.lit1 w9) (by decide) (by decide) exLat (HD.out _ (hb.alloc hb.size (.cells #[.int .i64 1, .int .i64 1, .int .i64 0] 47))))
  rw [exSrc] at s
  have hb' := hb.alloc hb.size (.cells #[.int .i64 1, .int .i64 1, .int .i64 0] 47)
  replace hc := Lib.hid (hc.out.alloc hc.out.size (.cells #[.int .i64 1, .int .i64 1, .int .i64 0] 47))
  obtain ⟨c0, c1, c2⟩ := HX.out _ hb
  go_wp2_with fail
  refine s.out.mono ?_
  rintro e w10 ⟨rfl, hx⟩
  replace hb := below_next hb' hx
  replace hc := Lib.hid (below_next hc.out hx)
  clear hx s c0 c1 c2 hb'
  have s := Lib.hid (sources_any _ _ _ [] 1 w10 (HU.out _ hb) exSmall (Three.Ss.nil _) (by decide) (by decide) exLat (HD.out _ hb))
  rw [exSrc0] at s
  obtain ⟨c0, c1, c2⟩ := HX.out _ hb
  go_wp2_with fail
  refine s.out.mono ?_
  rintro e w11 ⟨rfl, hx⟩
  replace hb := below_next hb hx
  replace hc := Lib.hid (below_next hc.out hx)
  clear hx s c0 c1 c2
  have s := Lib.hid (may_any v5 [exG] exG w11 (Three.Ss.below hG5.out hc.out))
  rw [exMay] at s
  obtain ⟨c0, c1, c2⟩ := HX.out _ hb
  go_wp2_with fail
  refine s.out.mono ?_
  rintro e w12 ⟨rfl, hx⟩
  replace hb := below_next hb hx
  replace hc := Lib.hid (below_next hc.out hx)
  clear hx s c0 c1 c2
  have s := Lib.hid (gless_any (0, 0, 0) exG w12)
  rw [exLess] at s
  obtain ⟨c0, c1, c2⟩ := HX.out _ hb
  go_wp2_with fail
  refine s.out.mono ?_
  rintro e w13 ⟨rfl, hx⟩
  replace hb := below_next hb hx
  replace hc := Lib.hid (below_next hc.out hx)
  clear hx s c0 c1 c2
  have hfin := Lib.hid (below_next HB.out hb)
  go_wp2_with fail
  go_ret
  exact ⟨rfl, hfin.out⟩
end Go.Proofs.YtnfhhhcbgipmcaaDoor
