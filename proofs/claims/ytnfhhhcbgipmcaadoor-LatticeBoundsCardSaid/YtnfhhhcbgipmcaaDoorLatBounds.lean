/- LatticeBounds returns true. -/
import Derived.Test.YtnfhhhcbgipmcaaDoorAwThree
import Derived.Test.YtnfhhhcbgipmcaaDoorLatLaw
namespace Go.Proofs.YtnfhhhcbgipmcaaDoor
open Go Go.RowKit

set_option maxRecDepth 4000 in
set_option maxHeartbeats 1000000 in
theorem latBounds_any (v : Value) (us : List Nat) (w : World) (hv : Us w v us) (hu : U64s us) (ht : DTab w) :
    Calls Tryd.prog 4 #[v] w fun e w' => e = .returned (.bool true) ∧ Below w.heap.size w w' := by
  obtain ⟨ao, cap, rfl, -⟩ := hv.shape
  have hbig := hv.len
  have HA := Lib.hid (aw3_any w ht)
  have HC := Lib.hid (fun (W : World) (hW : Below w.heap.size w W) => check_any _ us W (hv.below hW) hu (ht.below hW))
  have HQ := Lib.hid (fun (c d : Int) (W : World) (hW : Below w.heap.size w W) => leq_any _ us c d W (hv.below hW) hu)
  have HJ := Lib.hid (fun (c d : Int) (W : World) (hW : Below w.heap.size w W) => join_any _ us c d W (hv.below hW) hu (ht.below hW))
  have HM := Lib.hid (fun (c d : Int) (W : World) (hW : Below w.heap.size w W) => meet_any _ us c d W (hv.below hW) hu (ht.below hW))
  clear hv hu ht
  by_cases h12 : 12 < us.length
  · have d0 : decide ((12 : Int) < (us.length : Int)) = true := by simp; omega
    clear HC HQ HJ HM h12
    go_enter Tryd.func4, Tryd.ntmps4
    go_wp2_with fail
    refine HA.out.mono ?_
    rintro e w1 ⟨rfl, hb1⟩
    go_wp2_with fail
    go_ret
    exact ⟨rfl, hb1⟩
  · have d0 : decide ((12 : Int) < (us.length : Int)) = false := by simp; omega
    clear h12
    cases hck : L.check us with
    | false =>
      clear HQ HJ HM
      go_enter Tryd.func4, Tryd.ntmps4
      go_wp2_with fail
      refine HA.out.mono ?_
      rintro e w1 ⟨rfl, hb1⟩
      have s := Lib.hid (HC.out w1 hb1)
      rw [hck] at s
      clear hck HC HA
      go_wp2_with fail
      refine s.out.mono ?_
      rintro e w2 ⟨rfl, hb⟩
      have hb2 := below_next hb1 hb
      clear hb hb1 s
      go_wp2_with fail
      go_ret
      exact ⟨rfl, hb2⟩
    | true =>
      have HL := Lib.hid (L.check_iff.1 hck)
      go_enter Tryd.func4, Tryd.ntmps4
      go_wp2_with fail
      refine HA.out.mono ?_
      rintro e w1 ⟨rfl, hb1⟩
      have s := Lib.hid (HC.out w1 hb1)
      rw [hck] at s
      clear hck HC HA
      go_wp2_with fail
      refine s.out.mono ?_
      rintro e w2 ⟨rfl, hb⟩
      have hb2 := below_next hb1 hb
      clear hb hb1 s
      go_wp2_with fail
      go_loopw [4, 5, 6] (fun l h i wr => ∃ a x y : Nat, a ≤ us.length ∧ l = .int .i64 x ∧ h = .int .i64 y ∧ i = .int .i64 a ∧ Below w.heap.size w wr ∧ Hid (L.Lat.Lows us a x) ∧ Hid (L.Lat.Highs us a y)) (fun _ _ i _ => us.length - (intOf i).toNat)
      case atStart => exact ⟨0, 0, 0, by omega, rfl, rfl, rfl, hb2, ⟨HL.out.some, fun c hc => absurd hc (Nat.not_lt_zero _)⟩, ⟨HL.out.some, fun c hc => absurd hc (Nat.not_lt_zero _)⟩⟩
      case round =>
        clear hb2
        obtain ⟨a, x, y, ha, rfl, rfl, rfl, hbr, hlow, hhigh⟩ := hrel
        by_cases hal : a < us.length
        · obtain ⟨x', ex, hlow'⟩ := HL.out.lows_next hal hlow.out
          obtain ⟨y', ey, hhigh'⟩ := HL.out.highs_next hal hhigh.out
          have s := Lib.hid (HM.out x a _ hbr)
          rw [ex] at s
          replace hlow' := Lib.hid hlow'
          replace hhigh' := Lib.hid hhigh'
          clear hlow hhigh ex
          go_wp2_with fail
          refine s.out.mono ?_
          rintro e w3 ⟨rfl, hb⟩
          replace hbr := below_next hbr hb
          clear hb s
          have s := Lib.hid (HJ.out y a _ hbr)
          rw [ey] at s
          clear ey
          go_wp2_with fail
          refine s.out.mono ?_
          rintro e w4 ⟨rfl, hb⟩
          replace hbr := below_next hbr hb
          clear hb s
          go_wp2_with fail
          go_loopw [7] (fun i wr => ∃ b : Nat, b ≤ us.length ∧ i = .int .i64 b ∧ Below w.heap.size w wr) (fun i _ => us.length - (intOf i).toNat)
          case atStart => exact ⟨0, by omega, rfl, hbr⟩
          case round =>
            clear hbr
            obtain ⟨b, hb, rfl, hbr⟩ := hrel
            by_cases hbl : b < us.length
            · obtain ⟨j, m, P⟩ := HL.out.pair hal hbl
              have hpj := Lib.hid P.join'
              have hpm := Lib.hid P.meet'
              have hjm := Lib.hid P.jm
              have hmj := Lib.hid P.mj
              have haj := Lib.hid P.aj
              have hbj := Lib.hid P.bj
              have hma := Lib.hid P.ma
              have hmb := Lib.hid P.mb
              have hisj := Lib.hid P.isj
              have hism := Lib.hid P.ism
              have s := Lib.hid (HJ.out a b _ hbr)
              have hpm' := Lib.hid P.meet
              rw [P.join] at s
              clear P
              have dj : ((j : Int) != (j : Int)) = false := by simp
              have dm : ((m : Int) != (m : Int)) = false := by simp
              have da : ((a : Int) != (a : Int)) = false := by simp
              go_wp2_with fail
              refine s.out.mono ?_
              rintro e w5 ⟨rfl, hx⟩
              replace hbr := below_next hbr hx
              clear hx s
              have s := Lib.hid (HM.out a b _ hbr)
              rw [hpm'.out] at s
              clear hpm'
              go_wp2_with fail
              refine s.out.mono ?_
              rintro e w6 ⟨rfl, hx⟩
              replace hbr := below_next hbr hx
              clear hx s
              have s := Lib.hid (HJ.out b a _ hbr)
              rw [hpj.out] at s
              clear hpj
              go_wp2_with fail
              refine s.out.mono ?_
              rintro e w7 ⟨rfl, hx⟩
              replace hbr := below_next hbr hx
              clear hx s
              have s := Lib.hid (HM.out b a _ hbr)
              rw [hpm.out] at s
              clear hpm
              go_wp2_with fail
              refine s.out.mono ?_
              rintro e w8 ⟨rfl, hx⟩
              replace hbr := below_next hbr hx
              clear hx s
              have s := Lib.hid (HQ.out a j _ hbr)
              rw [haj.out] at s
              clear haj
              go_wp2_with fail
              refine s.out.mono ?_
              rintro e w9 ⟨rfl, rfl⟩
              clear s
              have s := Lib.hid (HQ.out b j _ hbr)
              rw [hbj.out] at s
              clear hbj
              go_wp2_with fail
              refine s.out.mono ?_
              rintro e w9 ⟨rfl, rfl⟩
              clear s
              have s := Lib.hid (HQ.out m a _ hbr)
              rw [hma.out] at s
              clear hma
              go_wp2_with fail
              refine s.out.mono ?_
              rintro e w9 ⟨rfl, rfl⟩
              clear s
              have s := Lib.hid (HQ.out m b _ hbr)
              rw [hmb.out] at s
              clear hmb
              go_wp2_with fail
              refine s.out.mono ?_
              rintro e w9 ⟨rfl, rfl⟩
              clear s
              have s := Lib.hid (HQ.out a b _ hbr)
              obtain ⟨q, hq⟩ : ∃ q, L.leq us a b = q := ⟨_, rfl⟩
              rw [hq] at s hisj hism
              clear hq
              have dqj : ((j : Int) == (b : Int)) = q := hisj.out.symm
              have dqq : (q != q) = false := by simp
              have dqm : ((m : Int) == (a : Int)) = q := hism.out.symm
              clear hisj hism
              go_wp2_with fail
              refine s.out.mono ?_
              rintro e w9 ⟨rfl, rfl⟩
              clear s
              have s := Lib.hid (HJ.out a m _ hbr)
              rw [hjm.out] at s
              clear hjm
              go_wp2_with fail
              refine s.out.mono ?_
              rintro e w10 ⟨rfl, hx⟩
              replace hbr := below_next hbr hx
              clear hx s
              have s := Lib.hid (HM.out a j _ hbr)
              rw [hmj.out] at s
              clear hmj
              go_wp2_with fail
              refine s.out.mono ?_
              rintro e w11 ⟨rfl, hx⟩
              replace hbr := below_next hbr hx
              clear hx s
              go_wp2_with fail
              go_roundw
              case rel => exact ⟨b + 1, by omega, by go_num, hbr⟩
              case measure => simp [intOf]; omega
            · obtain rfl : b = us.length := by omega
              go_wp2_with fail
              go_roundw
              case rel => exact ⟨a + 1, x', y', by omega, rfl, rfl, by go_num, hbr, hlow', hhigh'⟩
              case measure => simp [intOf]; omega
        · obtain rfl : a = us.length := by omega
          clear HJ HM
          go_wp2_with fail
          go_loopw [11] (fun i wr => ∃ b : Nat, b ≤ us.length ∧ i = .int .i64 b ∧ Below w.heap.size w wr) (fun i _ => us.length - (intOf i).toNat)
          case atStart => exact ⟨0, by omega, rfl, hbr⟩
          case round =>
            clear hbr
            obtain ⟨b, hb, rfl, hbr⟩ := hrel
            by_cases hbl : b < us.length
            · have s := Lib.hid (HQ.out x b _ hbr)
              rw [hlow.out.all b hbl] at s
              go_wp2_with fail
              refine s.out.mono ?_
              rintro e w9 ⟨rfl, rfl⟩
              clear s
              have s := Lib.hid (HQ.out b y _ hbr)
              rw [hhigh.out.all b hbl] at s
              go_wp2_with fail
              refine s.out.mono ?_
              rintro e w9 ⟨rfl, rfl⟩
              clear s
              go_wp2_with fail
              go_roundw
              case rel => exact ⟨b + 1, by omega, by go_num, hbr⟩
              case measure => simp [intOf]; omega
            · obtain rfl : b = us.length := by omega
              go_wp2_with fail
              go_ret
              exact ⟨rfl, hbr⟩
end Go.Proofs.YtnfhhhcbgipmcaaDoor
