/- CrcOpens returns true. -/
import Derived.Test.YtigahgkjidbhbaaDoorCrcAwake
import Derived.Test.YtigahgkjidbhbaaDoorMix
import Derived.Test.YtigahgkjidbhbaaDoorCrcXors
namespace Go.Proofs.YtigahgkjidbhbaaDoor
open Go Go.RowKit

set_option maxHeartbeats 1000000 in
theorem crcOpens_any (v : Value) (l : List UInt8) (x : UInt8) (w : World) (hb : Bs w v l) (ht : Tab w) :
    Calls Tryd.prog 7 #[v, .int .u8 x.toNat] w fun e w' => e = .returned (.bool true) ∧ Below w.heap.size w w' := by
  obtain ⟨-, ao, cap, rfl, hlc, -, -, -⟩ := id hb
  by_cases hl : 1000 < l.length
  · have hd : decide ((1000 : Int) < (l.length : Int)) = true := by simp; omega
    clear hl
    go_enter Tryd.func7, Tryd.ntmps7
    go_wp2_with fail
    refine (awake_any w ht).mono ?_
    rintro e w1 ⟨rfl, hb1⟩
    go_wp2_with fail
    go_ret
    exact ⟨rfl, hb1⟩
  · have hd : decide ((1000 : Int) < (l.length : Int)) = false := by simp; omega
    go_enter Tryd.func7, Tryd.ntmps7
    go_wp2_with fail
    refine (awake_any w ht).mono ?_
    rintro e w1 ⟨rfl, hb1⟩
    have HB1 := hb.below hb1
    have ht1 := ht.below hb1
    have HB0 := Lib.hid hb
    have HT0 := Lib.hid ht
    clear hb ht
    have hle : (l.length : Int) ≤ 1000 := by omega
    go_wp2_with fail
    refine (tag_any _ l w1 HB1 ht1 (by omega)).mono ?_
    rintro e w2 ⟨vt, rfl, hown, hbel⟩
    have hb2 := below_next hb1 hbel
    have HT2 := Bs.of_owns hown
    have HB2 := HB1.below hbel
    have ht2 := ht1.below hbel
    have hw12 := hbel.size
    clear hbel HB1 ht1
    have HO := Lib.hid hown
    clear hown
    go_wp2_with fail
    refine (open_any vt _ w2 HT2 ht2 (by rw [C.tag_length]; omega)).mono ?_
    rintro e w3 ⟨vx, rfl, HX, hbel⟩
    have hb3 := below_next hb2 hbel
    have HB3 := HB2.below hbel
    have ht3 := ht2.below hbel
    have HO3 : Hid (w3.ownsRow w1.heap.size 5 1 vt (4 + l.length) (byteCells (C.tag l))) := ownsRow.below HO.out hbel
    rw [C.opened_tag] at HX
    rw [C.isTag_tag]
    have hs13 : w1.heap.size ≤ w3.heap.size := Nat.le_trans hw12 hbel.size
    clear hbel hb2 HB2 ht2 HT2 HO hw12
    have hc1 := run_str Tryd.underlying22 Tryd.underlying5 Tryd.underlying9 HX
    have hc2 := run_str Tryd.underlying22 Tryd.underlying5 Tryd.underlying9 HB3
    obtain ⟨g, capt, rfl, hgc, hgb⟩ : ∃ g capt, vt = .slice (some ⟨g, 0, none⟩) (4 + l.length) capt ∧ 4 + l.length ≤ capt ∧ w1.heap.size ≤ g := by
      rcases HO3.out.2 with ⟨_, h⟩ | ⟨g, c, _, h, hb, _, hc, _⟩
      · omega
      · exact ⟨g, c, h, hc, hb⟩
    have hcast : ((4 + l.length : Nat) : Int) = (l.length : Int) + 4 := by omega
    have hq1 : (((4 + l.length : Nat) : Int) != (l.length : Int) + 4) = false := by rw [bne_eq_false_iff_eq]; omega
    by_cases h0 : l = []
    · have hz : ((l.length : Int) == 0) = true := by rw [h0]; rfl
      clear h0
      go_wp2_with fail
      go_ret
      exact ⟨rfl, hb3⟩
    · have hpos : 0 < l.length := List.length_pos_iff.2 h0
      have hz : ((l.length : Int) == 0) = false := by rw [beq_eq_false_iff_ne]; omega
      have H0 := Lib.hid h0
      clear h0
      have hx1 : (1 : Int) ≤ (l.length : Int) ∧ (l.length : Int) - 1 ≤ (cap : Int) := by omega
      have hx2 : (1 : Int) ≤ (l.length : Int) + 4 ∧ (l.length : Int) + 4 - 1 ≤ (capt : Int) := by omega
      have htl : (C.tag l).length = 4 + l.length := by rw [C.tag_length]; omega
      have HT3 : Bs w3 (.slice (some ⟨g, 0, none⟩) (C.tag l).length capt) (C.tag l) := by
        rw [htl]; exact Bs.of_owns HO3.out
      have HT4 := HT3.take (l.length + 3) (by omega)
      go_wp2_with fail
      refine (open_any _ _ w3 HT4 ht3 (by simp; omega)).mono ?_
      rintro e w4 ⟨vy, rfl, -, hbel⟩
      rw [C.isTag_less l H0.out]
      have hb4 := below_next hb3 hbel
      have HB4 := HB3.below hbel
      have ht4 := ht3.below hbel
      have HO4 : Hid (w4.ownsRow w1.heap.size 5 1 (.slice (some ⟨g, 0, none⟩) (4 + l.length) capt) (4 + l.length) (byteCells (C.tag l))) := ownsRow.below HO3.out hbel
      have hs14 : w1.heap.size ≤ w4.heap.size := Nat.le_trans hs13 hbel.size
      clear hbel HB3 ht3 HO3 HT3 HT4 hb3 hc1 hc2 HX hs13 htl hx1 hx2
      obtain ⟨c, r, hcr⟩ := List.exists_cons_of_ne_nil H0.out
      have hc4 : w4.cell? ⟨g, 4, none⟩ = some (.int .u8 c.toNat) := by
        rw [HO4.out.cellAt 4 (by omega), hcr]
        simp [C.tag, C.num4, byteCells]
      have hf4 := HO4.out.frozenAt 4
      have hst := (HO4.out.stored 4 (.int .u8 ((c ^^^ x).toNat : Int))).1
      have hset : (byteCells (C.tag l)).set 4 (.int .u8 ((c ^^^ x).toNat : Int)) = byteCells (C.num4 (C.of (c :: r)) ++ (c ^^^ x) :: r) := by
        rw [hcr]
        simp [C.tag, C.num4, byteCells]
      rw [hset] at hst
      have hb5 := hb4.setCell (p := ⟨g, 4, none⟩) (Nat.le_trans hb1.size hgb) (.int .u8 ((c ^^^ x).toNat : Int))
      have hxor := xor_u8 c x
      have HS5 := Bs.of_owns hst
      have HCR := Lib.hid hcr
      have hlr : Hid (r.length + 1 = l.length) := by rw [hcr]; rfl
      clear hst hset hcr HO4 HB4 ht4 hb4
      rw [UInt8.toNat_xor] at hxor hb5 HS5
      go_wp2_with fail
      generalize w4.setCell ⟨g, 4, none⟩ (.int .u8 ((c.toNat ^^^ x.toNat : Nat) : Int)) = w5 at *
      refine (open_any _ _ w5 HS5 (HT0.out.below hb5) (by simp [C.num4]; have := hlr.out; omega)).mono ?_
      rintro e w6 ⟨vz, rfl, -, hbel⟩
      rw [C.isTag_first]
      have hb6 := below_next hb5 hbel
      have HB6 := HB0.out.below hb6
      have ht6 := HT0.out.below hb6
      have HBT := HB6.take (l.length - 1) (by omega)
      clear hbel HS5 hb5
      have hp : (((C.of (l.take (l.length - 1)) : Nat) : Int) == ((C.of l : Nat) : Int)) = (C.of (l.take (l.length - 1)) == C.of l) := by
        rw [Bool.eq_iff_iff]; simp only [beq_iff_eq]; omega
      have hq : ((x.toNat : Int) == 0) = (x == 0) := by
        rw [Bool.eq_iff_iff]
        simp only [beq_iff_eq]
        exact ⟨fun h => UInt8.toNat_inj.1 (by simpa using h), fun h => by rw [h]; rfl⟩
      generalize (x == 0) = q at *
      generalize (C.of (l.take (l.length - 1)) == C.of l) = p at *
      go_wp2_with fail
      refine (of_any _ _ w6 HBT ht6).mono ?_
      rintro e w7 ⟨rfl, rfl⟩
      go_wp2_with fail
      refine (of_any _ _ w6 HB6 ht6).mono ?_
      rintro e w7 ⟨rfl, rfl⟩
      cases p <;> cases q <;> (go_wp2_with fail; go_ret; exact ⟨rfl, hb6⟩)

theorem crcOpens8 (v : Value) (l : List UInt8) (n : Nat) (hn : n < 256) (w : World) (hb : Bs w v l) (ht : Tab w) :
    Calls Tryd.prog 7 #[v, .int .u8 n] w fun e w' => e = .returned (.bool true) ∧ Below w.heap.size w w' := by
  have h := crcOpens_any v l (UInt8.ofNat n) w hb ht
  rwa [UInt8.toNat_ofNat', Nat.mod_eq_of_lt hn] at h
end Go.Proofs.YtigahgkjidbhbaaDoor
