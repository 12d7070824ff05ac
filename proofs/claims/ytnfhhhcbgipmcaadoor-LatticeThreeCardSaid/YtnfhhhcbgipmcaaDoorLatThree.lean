/- LatticeThree returns true. -/
import Derived.Test.YtnfhhhcbgipmcaaDoorAwThree
import Derived.Test.YtnfhhhcbgipmcaaDoorLatLaw
namespace Go.Proofs.YtnfhhhcbgipmcaaDoor
open Go Go.RowKit

set_option maxRecDepth 4000 in
set_option maxHeartbeats 1000000 in
theorem latThree_any (v : Value) (us : List Nat) (w : World) (hv : Us w v us) (hu : U64s us) (ht : DTab w) :
    Calls Tryd.prog 6 #[v] w fun e w' => e = .returned (.bool true) ∧ Below w.heap.size w w' := by
  obtain ⟨ao, cap, rfl, -⟩ := hv.shape
  have hbig := hv.len
  have HA := Lib.hid (aw3_any w ht)
  have HC := Lib.hid (fun (W : World) (hW : Below w.heap.size w W) => check_any _ us W (hv.below hW) hu (ht.below hW))
  have HQ := Lib.hid (fun (c d : Int) (W : World) (hW : Below w.heap.size w W) => leq_any _ us c d W (hv.below hW) hu)
  have HJ := Lib.hid (fun (c d : Int) (W : World) (hW : Below w.heap.size w W) => join_any _ us c d W (hv.below hW) hu (ht.below hW))
  have HM := Lib.hid (fun (c d : Int) (W : World) (hW : Below w.heap.size w W) => meet_any _ us c d W (hv.below hW) hu (ht.below hW))
  clear hv hu ht
  by_cases h8 : 8 < us.length
  · have d0 : decide ((8 : Int) < (us.length : Int)) = true := by simp; omega
    clear HC HQ HJ HM h8
    go_enter Tryd.func6, Tryd.ntmps6
    go_wp2_with fail
    refine HA.out.mono ?_
    rintro e w1 ⟨rfl, hb1⟩
    go_wp2_with fail
    go_ret
    exact ⟨rfl, hb1⟩
  · have d0 : decide ((8 : Int) < (us.length : Int)) = false := by simp; omega
    clear h8
    cases hck : L.check us with
    | false =>
      clear HQ HJ HM
      go_enter Tryd.func6, Tryd.ntmps6
      go_wp2_with fail
      refine HA.out.mono ?_
      rintro e w1 ⟨rfl, hbr⟩
      have s := Lib.hid (HC.out _ hbr)
      rw [hck] at s
      clear hck HC HA
      go_wp2_with fail
      refine s.out.mono ?_
      rintro e w2 ⟨rfl, hx⟩
      replace hbr := below_next hbr hx
      clear hx s
      go_wp2_with fail
      go_ret
      exact ⟨rfl, hbr⟩
    | true =>
      have HL := Lib.hid (L.check_iff.1 hck)
      go_enter Tryd.func6, Tryd.ntmps6
      go_wp2_with fail
      refine HA.out.mono ?_
      rintro e w1 ⟨rfl, hbr⟩
      have s := Lib.hid (HC.out _ hbr)
      rw [hck] at s
      clear hck HC HA
      go_wp2_with fail
      refine s.out.mono ?_
      rintro e w2 ⟨rfl, hx⟩
      replace hbr := below_next hbr hx
      clear hx s
      go_wp2_with fail
      go_loopw [4] (fun i wr => ∃ b : Nat, b ≤ us.length ∧ i = .int .i64 b ∧ Below w.heap.size w wr) (fun i _ => us.length - (intOf i).toNat)
      case atStart => exact ⟨0, by omega, rfl, hbr⟩
      case round =>
        clear hbr
        obtain ⟨a, ha, rfl, hbr⟩ := hrel
        by_cases hal : a < us.length
        · go_wp2_with fail
          go_loopw [5] (fun i wr => ∃ b : Nat, b ≤ us.length ∧ i = .int .i64 b ∧ Below w.heap.size w wr) (fun i _ => us.length - (intOf i).toNat)
          case atStart => exact ⟨0, by omega, rfl, hbr⟩
          case round =>
            clear hbr
            obtain ⟨b, hb, rfl, hbr⟩ := hrel
            by_cases hbl : b < us.length
            · obtain ⟨j, m, P⟩ := HL.out.pair hal hbl
              have hj := Lib.hid P.join
              have hm := Lib.hid P.meet
              clear P
              have s := Lib.hid (HM.out a b _ hbr)
              rw [hm.out] at s
              go_wp2_with fail
              refine s.out.mono ?_
              rintro e wn ⟨rfl, hx⟩
              replace hbr := below_next hbr hx
              clear hx s
              have s := Lib.hid (HJ.out a b _ hbr)
              rw [hj.out] at s
              go_wp2_with fail
              refine s.out.mono ?_
              rintro e wn ⟨rfl, hx⟩
              replace hbr := below_next hbr hx
              clear hx s
              go_wp2_with fail
              go_loopw [8] (fun i wr => ∃ b : Nat, b ≤ us.length ∧ i = .int .i64 b ∧ Below w.heap.size w wr) (fun i _ => us.length - (intOf i).toNat)
              case atStart => exact ⟨0, by omega, rfl, hbr⟩
              case round =>
                clear hbr
                obtain ⟨c, hc, rfl, hbr⟩ := hrel
                by_cases hcl : c < us.length
                · obtain ⟨k, l, u, x, T⟩ := HL.out.triple hal hbl hcl hj.out hm.out
                  have t_jc := Lib.hid T.jc
                  have t_bc := Lib.hid T.bc
                  have t_ak := Lib.hid T.ak
                  have t_mc := Lib.hid T.mc
                  have t_bcm := Lib.hid T.bcm
                  have t_al := Lib.hid T.al
                  have t_low := Lib.hid T.low
                  have t_high := Lib.hid T.high
                  clear T
                  have du : ((u : Int) != (u : Int)) = false := by simp
                  have dx : ((x : Int) != (x : Int)) = false := by simp
                  have s := Lib.hid (HJ.out j c _ hbr)
                  rw [t_jc.out] at s
                  go_wp2_with fail
                  refine s.out.mono ?_
                  rintro e wn ⟨rfl, hx⟩
                  replace hbr := below_next hbr hx
                  clear hx s
                  clear t_jc
                  have s := Lib.hid (HJ.out b c _ hbr)
                  rw [t_bc.out] at s
                  go_wp2_with fail
                  refine s.out.mono ?_
                  rintro e wn ⟨rfl, hx⟩
                  replace hbr := below_next hbr hx
                  clear hx s
                  clear t_bc
                  have s := Lib.hid (HJ.out a k _ hbr)
                  rw [t_ak.out] at s
                  go_wp2_with fail
                  refine s.out.mono ?_
                  rintro e wn ⟨rfl, hx⟩
                  replace hbr := below_next hbr hx
                  clear hx s
                  clear t_ak
                  have s := Lib.hid (HM.out m c _ hbr)
                  rw [t_mc.out] at s
                  go_wp2_with fail
                  refine s.out.mono ?_
                  rintro e wn ⟨rfl, hx⟩
                  replace hbr := below_next hbr hx
                  clear hx s
                  clear t_mc
                  have s := Lib.hid (HM.out b c _ hbr)
                  rw [t_bcm.out] at s
                  go_wp2_with fail
                  refine s.out.mono ?_
                  rintro e wn ⟨rfl, hx⟩
                  replace hbr := below_next hbr hx
                  clear hx s
                  clear t_bcm
                  have s := Lib.hid (HM.out a l _ hbr)
                  rw [t_al.out] at s
                  go_wp2_with fail
                  refine s.out.mono ?_
                  rintro e wn ⟨rfl, hx⟩
                  replace hbr := below_next hbr hx
                  clear hx s
                  clear t_al
                  have q1 := Lib.hid (HQ.out c a)
                  have q2 := Lib.hid (HQ.out c b)
                  have q3 := Lib.hid (HQ.out c m)
                  have q4 := Lib.hid (HQ.out a c)
                  have q5 := Lib.hid (HQ.out b c)
                  have q6 := Lib.hid (HQ.out j c)
                  generalize L.leq us c a = x1 at *
                  generalize L.leq us c b = x2 at *
                  generalize L.leq us c m = x3 at *
                  generalize L.leq us a c = x4 at *
                  generalize L.leq us b c = x5 at *
                  generalize L.leq us j c = x6 at *
                  obtain rfl : x3 = (x1 && x2) := t_low.out.symm
                  obtain rfl : x6 = (x4 && x5) := t_high.out.symm
                  clear t_low t_high hj hm
                  cases x1 with
                  | false =>
                    cases x4 with
                    | false =>
                      (
                          go_wp2_with fail
                          refine (q1.out _ hbr).mono ?_
                          rintro e wn ⟨rfl, rfl⟩
                          go_wp2_with fail
                          refine (q4.out _ hbr).mono ?_
                          rintro e wn ⟨rfl, rfl⟩
                          go_wp2_with fail
                          refine (q3.out _ hbr).mono ?_
                          rintro e wn ⟨rfl, rfl⟩
                          go_wp2_with fail
                          refine (q6.out _ hbr).mono ?_
                          rintro e wn ⟨rfl, rfl⟩
                          go_wp2_with fail
                          go_roundw
                          case rel => exact ⟨c + 1, by omega, by go_num, hbr⟩
                          case measure => simp [intOf]; omega)
                    | true =>
                      cases x5 <;> (
                          go_wp2_with fail
                          refine (q1.out _ hbr).mono ?_
                          rintro e wn ⟨rfl, rfl⟩
                          go_wp2_with fail
                          refine (q4.out _ hbr).mono ?_
                          rintro e wn ⟨rfl, rfl⟩
                          go_wp2_with fail
                          refine (q5.out _ hbr).mono ?_
                          rintro e wn ⟨rfl, rfl⟩
                          go_wp2_with fail
                          refine (q3.out _ hbr).mono ?_
                          rintro e wn ⟨rfl, rfl⟩
                          go_wp2_with fail
                          refine (q6.out _ hbr).mono ?_
                          rintro e wn ⟨rfl, rfl⟩
                          go_wp2_with fail
                          go_roundw
                          case rel => exact ⟨c + 1, by omega, by go_num, hbr⟩
                          case measure => simp [intOf]; omega)
                  | true =>
                    cases x4 with
                    | false =>
                      cases x2 <;>
                        (
                          go_wp2_with fail
                          refine (q1.out _ hbr).mono ?_
                          rintro e wn ⟨rfl, rfl⟩
                          go_wp2_with fail
                          refine (q2.out _ hbr).mono ?_
                          rintro e wn ⟨rfl, rfl⟩
                          go_wp2_with fail
                          refine (q4.out _ hbr).mono ?_
                          rintro e wn ⟨rfl, rfl⟩
                          go_wp2_with fail
                          refine (q3.out _ hbr).mono ?_
                          rintro e wn ⟨rfl, rfl⟩
                          go_wp2_with fail
                          refine (q6.out _ hbr).mono ?_
                          rintro e wn ⟨rfl, rfl⟩
                          go_wp2_with fail
                          go_roundw
                          case rel => exact ⟨c + 1, by omega, by go_num, hbr⟩
                          case measure => simp [intOf]; omega)
                    | true =>
                      cases x2 <;>
                        cases x5 <;> (
                          go_wp2_with fail
                          refine (q1.out _ hbr).mono ?_
                          rintro e wn ⟨rfl, rfl⟩
                          go_wp2_with fail
                          refine (q2.out _ hbr).mono ?_
                          rintro e wn ⟨rfl, rfl⟩
                          go_wp2_with fail
                          refine (q4.out _ hbr).mono ?_
                          rintro e wn ⟨rfl, rfl⟩
                          go_wp2_with fail
                          refine (q5.out _ hbr).mono ?_
                          rintro e wn ⟨rfl, rfl⟩
                          go_wp2_with fail
                          refine (q3.out _ hbr).mono ?_
                          rintro e wn ⟨rfl, rfl⟩
                          go_wp2_with fail
                          refine (q6.out _ hbr).mono ?_
                          rintro e wn ⟨rfl, rfl⟩
                          go_wp2_with fail
                          go_roundw
                          case rel => exact ⟨c + 1, by omega, by go_num, hbr⟩
                          case measure => simp [intOf]; omega)
                · obtain rfl : c = us.length := by omega
                  go_wp2_with fail
                  go_roundw
                  case rel => exact ⟨b + 1, by omega, by go_num, hbr⟩
                  case measure => simp [intOf]; omega
            · obtain rfl : b = us.length := by omega
              go_wp2_with fail
              go_roundw
              case rel => exact ⟨a + 1, by omega, by go_num, hbr⟩
              case measure => simp [intOf]; omega
        · obtain rfl : a = us.length := by omega
          go_wp2_with fail
          go_ret
          exact ⟨rfl, hbr⟩
end Go.Proofs.YtnfhhhcbgipmcaaDoor
