/- LatticeDown returns true. -/
import Derived.Test.YtnfhhhcbgipmcaaDoorAwThree
import Derived.Test.YtnfhhhcbgipmcaaDoorLatLaw
import Derived.Test.YtnfhhhcbgipmcaaDoorEq
namespace Go.Proofs.YtnfhhhcbgipmcaaDoor
open Go Go.RowKit

set_option maxRecDepth 4000 in
set_option maxHeartbeats 1000000 in
theorem latDown_any (v : Value) (us : List Nat) (w : World) (hv : Us w v us) (hu : U64s us) (ht : DTab w) :
    Calls Tryd.prog 5 #[v] w fun e w' => e = .returned (.bool true) ∧ Below w.heap.size w w' := by
  obtain ⟨ao, cap, rfl, -⟩ := hv.shape
  have hbig := hv.len
  have HA := Lib.hid (aw3_any w ht)
  have HC := Lib.hid (fun (W : World) (hW : Below w.heap.size w W) => check_any _ us W (hv.below hW) hu (ht.below hW))
  have HQ := Lib.hid (fun (c d : Int) (W : World) (hW : Below w.heap.size w W) => leq_any _ us c d W (hv.below hW) hu)
  have HD := Lib.hid (fun (c : Int) (W : World) (hW : Below w.heap.size w W) => down_any _ us c W (hv.below hW) hu)
  have HZ := Lib.hid (fun (W : World) (hW : Below w.heap.size w W) => close_any _ us W (hv.below hW) hu)
  have HV := Lib.hid hv
  have HT := Lib.hid ht
  clear hv hu ht
  by_cases h12 : 12 < us.length
  · have d0 : decide ((12 : Int) < (us.length : Int)) = true := by simp; omega
    clear HC HQ HD HZ HV HT h12
    go_enter Tryd.func5, Tryd.ntmps5
    go_wp2_with fail
    refine HA.out.mono ?_
    rintro e w1 ⟨rfl, hb1⟩
    go_wp2_with fail
    go_ret
    exact ⟨rfl, hb1⟩
  · have d0 : decide ((12 : Int) < (us.length : Int)) = false := by simp; omega
    clear h12
    cases hck : L.check us with
    | false =>
      clear HQ HD HZ HV HT
      go_enter Tryd.func5, Tryd.ntmps5
      go_wp2_with fail
      refine HA.out.mono ?_
      rintro e w1 ⟨rfl, hbr⟩
      have s := Lib.hid (HC.out _ hbr)
      rw [hck] at s
      clear hck HC HA
      go_wp2_with fail
      refine s.out.mono ?_
      rintro e w2 ⟨rfl, hx⟩
      replace hbr := below_next hbr hx
      clear hx s
      go_wp2_with fail
      go_ret
      exact ⟨rfl, hbr⟩
    | true =>
      have HL := Lib.hid (L.check_iff.1 hck)
      have hclose : Hid (L.closeOr us = us) := by unfold Hid; rw [L.closeOr_short HL.out.few]; exact L.close_self.2 HL.out.order
      go_enter Tryd.func5, Tryd.ntmps5
      go_wp2_with fail
      refine HA.out.mono ?_
      rintro e w1 ⟨rfl, hbr⟩
      have s := Lib.hid (HC.out _ hbr)
      rw [hck] at s
      clear hck HC HA
      go_wp2_with fail
      refine s.out.mono ?_
      rintro e w2 ⟨rfl, hx⟩
      replace hbr := below_next hbr hx
      clear hx s
      go_wp2_with fail
      refine (HZ.out _ hbr).mono ?_
      rintro e w3 ⟨v3, rfl, hown, hx⟩
      replace hbr := below_next hbr hx
      have s := Lib.hid (same_any v3 _ (L.closeOr us) us w3 (closeOr_us hown) (HV.out.below hbr))
      rw [show (L.closeOr us == us) = true by rw [hclose.out]; simp] at s
      clear hx hown HZ hclose
      go_wp2_with fail
      refine s.out.mono ?_
      rintro e w4 ⟨rfl, hx⟩
      replace hbr := below_next hbr hx
      clear hx s
      go_wp2_with fail
      go_loopw [4] (fun i wr => ∃ a : Nat, a ≤ us.length ∧ i = .int .i64 a ∧ Below w.heap.size w wr) (fun i _ => us.length - (intOf i).toNat)
      case atStart => exact ⟨0, by omega, rfl, hbr⟩
      case round =>
        clear hbr
        obtain ⟨a, ha, rfl, hbr⟩ := hrel
        by_cases hal : a < us.length
        · go_wp2_with fail
          refine (HD.out a _ hbr).mono ?_
          rintro e wn ⟨rfl, rfl⟩
          have hdl := L.down_lt us a
          go_wp2_with fail
          refine (list_any (L.down us a) hdl _ (HT.out.below hbr)).mono ?_
          rintro e w5 ⟨v5, rfl, hown, hx⟩
          replace hbr := below_next hbr hx
          rw [HL.out.down_list a] at hown
          have HI : Hid (Is w5 v5 (L.front (fun (i : Nat) => L.leq us i a) us.length)) := Is.of_owns hown
          obtain ⟨ao5, cap5, rfl, -⟩ := HI.out.shape
          have hl5 := HI.out.len
          clear hx hown
          obtain ⟨p, hp⟩ : ∃ p : Nat → Bool, (fun (i : Nat) => L.leq us i a) = p := ⟨_, rfl⟩
          have hpa : Hid (∀ i : Nat, L.leq us i a = p i) := fun i => by rw [← hp]
          rw [hp] at HI hl5 ⊢
          clear hp
          obtain ⟨N, hN⟩ : ∃ N, (L.front p us.length).length = N := ⟨_, rfl⟩
          rw [hN] at hl5 ⊢
          replace hN := Lib.hid hN
          obtain ⟨da, hda⟩ : ∃ x, L.down us a = x := ⟨_, rfl⟩
          have ddd : ((da : Int) != (da : Int)) = false := by simp
          rw [hda] at hdl
          replace hda := Lib.hid hda
          go_wp2_with fail
          go_loopw [6, 7] (fun t i wr => ∃ b k : Nat, b ≤ us.length ∧ i = .int .i64 b ∧ t = .int .i64 k ∧ Hid ((L.front p b).length = k) ∧ Below w.heap.size w wr ∧ Hid (Below w5.heap.size w5 wr)) (fun _ i _ => us.length - (intOf i).toNat)
          case atStart => exact ⟨0, 0, by omega, rfl, rfl, rfl, hbr, Below.refl _ _⟩
          case round =>
            clear hbr
            obtain ⟨b, k, hb, rfl, rfl, hk, hbr, hb5⟩ := hrel
            by_cases hbl : b < us.length
            · have s := Lib.hid (HQ.out b a _ hbr)
              rw [hpa.out b] at s
              cases hpb : p b with
              | false =>
                rw [hpb] at s
                have hk' := Lib.hid ((L.front_not p hpb).trans hk.out)
                clear hpb hk
                go_wp2_with fail
                refine s.out.mono ?_
                rintro e wn ⟨rfl, rfl⟩
                clear s
                go_wp2_with fail
                go_roundw
                case rel => exact ⟨b + 1, k, by omega, by go_num, rfl, hk', hbr, hb5⟩
                case measure => simp [intOf]; omega
              | true =>
                rw [hpb] at s
                obtain ⟨q1, q2, q3⟩ := L.front_at p hbl hpb
                rw [hk.out] at q1 q2 q3
                rw [hN.out] at q1
                obtain ⟨blk, off, rfl, hcell⟩ := (HI.out.below hb5.out).at (j := k) (by rw [hN.out]; exact q1)
                replace hcell := hcell k (by rw [hN.out]; exact q1)
                rw [q2] at hcell
                clear q2
                have dbb : ((b : Int) != (b : Int)) = false := by simp
                have dkn : decide ((N : Int) ≤ (k : Int)) = false := by simp; omega
                have hkN : (k : Int) < (N : Int) := by omega
                have hor := Lib.hid (HL.out.down_or hal hbl (by rw [hpa.out b]; exact hpb))
                rw [hda.out] at hor
                have hk' := Lib.hid q3
                clear q3 hpb hk
                go_wp2_with fail
                refine s.out.mono ?_
                rintro e wn ⟨rfl, rfl⟩
                clear s
                go_wp2_with fail
                refine (HD.out b _ hbr).mono ?_
                rintro e wn ⟨rfl, rfl⟩
                obtain ⟨db, hdb⟩ : ∃ x, L.down us b = x := ⟨_, rfl⟩
                have hdbl := L.down_lt us b
                rw [hdb] at hdbl hor ⊢
                clear hdb
                have hbits : bits BinOp.or IntKind.u64 (db : Int) (da : Int) = (da : Int) := by rw [u64_or_nat _ _ hdbl hdl, hor.out]
                clear hor hdbl
                have sa := Lib.hid (HD.out a _ hbr)
                rw [hda.out] at sa
                go_wp2_with fail
                refine sa.out.mono ?_
                rintro e wn ⟨rfl, rfl⟩
                go_wp2_with fail
                refine sa.out.mono ?_
                rintro e wn ⟨rfl, rfl⟩
                go_wp2_with fail
                go_roundw
                case rel => exact ⟨b + 1, k + 1, by omega, by go_num, by go_num, hk', hbr, hb5⟩
                case measure => simp [intOf]; omega
            · obtain rfl : b = us.length := by omega
              obtain rfl : N = k := hN.out.symm.trans hk.out
              have dN : ((N : Int) != (N : Int)) = false := by simp
              go_wp2_with fail
              go_roundw
              case rel => exact ⟨a + 1, by omega, by go_num, hbr⟩
              case measure => simp [intOf]; omega
        · obtain rfl : a = us.length := by omega
          go_wp2_with fail
          go_ret
          exact ⟨rfl, hbr⟩
end Go.Proofs.YtnfhhhcbgipmcaaDoor
