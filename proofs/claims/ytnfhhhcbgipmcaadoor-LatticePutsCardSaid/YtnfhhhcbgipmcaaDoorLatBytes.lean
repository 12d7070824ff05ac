/- What lattice.Put and the reference's Put return. -/
import Derived.Test.YtnfhhhcbgipmcaaDoorCheck
import Derived.Test.YtnfhhhcbgipmcaaDoorRefCheck
import Derived.Test.YtnfhhhcbgipmcaaDoorClone
import Derived.Test.YtnfhhhcbgipmcaaDoorRefNum
import Derived.Test.YtnfhhhcbgipmcaaDoorTakePlain
namespace Go.Proofs.YtnfhhhcbgipmcaaDoor
open Go Go.RowKit

namespace L
/-- Rows as bytes, as they are put. -/
def rowBytes (us : List Nat) : List UInt8 := us.flatMap (be 8)
theorem rowBytes_length : ∀ us, (rowBytes us).length = 8 * us.length
  | [] => rfl
  | u :: us => by
    have := rowBytes_length us
    unfold rowBytes at this ⊢
    rw [List.flatMap_cons, List.length_append, be_length, this, List.length_cons]; omega
theorem rowBytes_snoc (us : List Nat) (x : Nat) : rowBytes (us ++ [x]) = rowBytes us ++ be 8 x := by simp [rowBytes]
noncomputable def putE (us : List Nat) : Int := if check us then 0 else 1
noncomputable def put (us : List Nat) : List UInt8 := if check us then be 1 us.length ++ rowBytes us else []
end L

set_option maxHeartbeats 1000000 in
theorem put_any (v : Value) (us : List Nat) (w : World) (hv : Us w v us) (hu : U64s us) (ht : DTab w) :
    Calls Tryd.prog 29 #[v] w fun e w' => ∃ v', e = .returned (.tuple #[v', .int .i64 (L.putE us)]) ∧ w'.ownsRow w.heap.size 5 1 v' (L.put us).length (byteCells (L.put us)) ∧ Below w.heap.size w w' := by
  obtain ⟨ao, cap, rfl, -⟩ := hv.shape
  have hbig := hv.len
  have HV := Lib.hid hv
  have HU := Lib.hid hu
  have HC := Lib.hid (check_any _ us w hv hu ht)
  clear hv hu ht
  cases hck : L.check us with
  | false =>
    rw [hck] at HC
    have hp : Hid (L.putE us = 1 ∧ L.put us = []) := by unfold Hid L.putE L.put; rw [hck]; simp
    clear hck
    go_enter Tryd.func29, Tryd.ntmps29
    go_wp2_with fail
    refine HC.out.mono ?_
    rintro e w1 ⟨rfl, hb1⟩
    go_wp2_with fail
    go_ret2
    exact ⟨_, by rw [hp.out.1]; rfl, by rw [hp.out.2]; exact World.ownsRow_nil _ _ _ _, hb1⟩
  | true =>
    rw [hck] at HC
    have hlat := L.check_iff.1 hck
    have h64 := hlat.few
    have hp : Hid (L.putE us = 0 ∧ L.put us = be 1 us.length ++ L.rowBytes us) := by unfold Hid L.putE L.put; rw [hck]; simp
    clear hck hlat
    go_enter Tryd.func29, Tryd.ntmps29
    go_wp2_with fail
    refine HC.out.mono ?_
    rintro e w1 ⟨rfl, hb1⟩
    have HN := Lib.hid (num_any us.length 1 (by omega) (by decide) (by decide) w1)
    rw [show ((1 : Nat) : Int) = 1 from rfl] at HN
    clear HC
    go_wp2_with fail
    refine HN.out.mono ?_
    rintro e w2 ⟨v2, rfl, hown, hb⟩
    have hb2 := below_next hb1 hb
    have HO := Lib.hid (ownsRow.base hown hb1.size)
    clear hb hown hb1 HN
    go_wp2_with fail
    go_loopw [4, 16] (fun t i wr => ∃ k : Nat, k ≤ us.length ∧ i = .int .i64 k ∧ Hid (wr.ownsRow w.heap.size 5 1 t (1 + 8 * k) (byteCells (be 1 us.length ++ L.rowBytes (us.take k)))) ∧ Below w.heap.size w wr) (fun _ i _ => us.length - (intOf i).toNat)
    case atStart => exact ⟨0, by omega, rfl, by simpa [L.rowBytes] using HO, hb2⟩
    case round =>
      clear hb2 HO
      obtain ⟨k, hk, rfl, hr, hbr⟩ := hrel
      by_cases hkl : k < us.length
      · obtain ⟨b, off, rfl, hc⟩ := (HV.out.below hbr).at hkl
        replace hc := hc k hkl
        have hx := HU.out.getD k
        have hs : Hid (L.rowBytes (us.take (k + 1)) = L.rowBytes (us.take k) ++ be 8 (us.getD k 0)) := by unfold Hid; rw [take_getD hkl, L.rowBytes_snoc]
        obtain ⟨x, hxx⟩ : ∃ x, us.getD k 0 = x := ⟨_, rfl⟩
        rw [hxx] at hc hx hs
        clear hxx
        have HN := Lib.hid (num_any x 8 hx (by decide) (by decide) wr)
        rw [show ((8 : Nat) : Int) = 8 from rfl] at HN
        go_wp2_with fail
        refine HN.out.mono ?_
        rintro e w3 ⟨v3, rfl, hown, hb⟩
        have hb3 := below_next hbr hb
        have HO := Lib.hid (ownsRow.below hr.out hb)
        have HB := Lib.hid (Bs.of_owns hown)
        clear hown hr hbr HN hb
        go_wp2_with (at_builtin; go_must (refine wpList_append_sl rfl _ _ 33 rfl w.heap.size 5 (.int .u8 0) 1 1 Tryd.underlying33 infoU8 rfl (by decide) _ _ _ rfl HO.out v3 8 (byteCells (be 8 x)) rfl HB.out (byteCells_oneCell _) (by unfold maxLen; omega) (by omega) hb3.size ?_))
        intro v4 w4 hown4 hgrow _
        have hb4 := hb3.grown hgrow hb3.size (ownBlock_ge HO.out)
        have HO4 : Hid (w4.ownsRow w.heap.size 5 1 v4 (1 + 8 * (k + 1)) (byteCells (be 1 us.length ++ L.rowBytes (us.take (k + 1))))) := by
          unfold Hid
          rw [hs.out, ← List.append_assoc, ← byteCells_append, show 1 + 8 * (k + 1) = 1 + 8 * k + 8 by omega]
          exact hown4
        clear hown4 hgrow HO HB hb3 hs
        go_wp2_with fail
        go_roundw
        case rel => exact ⟨k + 1, by omega, by go_num, HO4, hb4⟩
        case measure => simp [intOf]; omega
      · obtain rfl : k = us.length := by omega
        have hfin : Hid (be 1 us.length ++ L.rowBytes (us.take us.length) = L.put us) := by unfold Hid; rw [hp.out.2, List.take_length]
        have hfl : Hid (1 + 8 * us.length = (L.put us).length) := by unfold Hid; rw [hp.out.2, List.length_append, be_length, L.rowBytes_length]
        go_wp2_with fail
        go_ret2
        exact ⟨_, by rw [hp.out.1]; rfl, by rw [← hfl.out, ← hfin.out]; exact hr.out, hbr⟩

set_option maxHeartbeats 1000000 in
theorem refPut_any (v : Value) (us : List Nat) (w : World) (hv : Us w v us) (hu : U64s us) :
    Calls Tryd.prog 30 #[v] w fun e w' => e = .returned (.tuple #[.string (str (L.put us)), .int .i64 (L.putE us)]) ∧ Below w.heap.size w w' := by
  obtain ⟨ao, cap, rfl, -⟩ := hv.shape
  have hbig := hv.len
  have HV := Lib.hid hv
  have HU := Lib.hid hu
  have HC := Lib.hid (refCheck_any _ us w hv hu)
  clear hv hu
  cases hck : L.check us with
  | false =>
    rw [hck] at HC
    have hp : Hid (L.putE us = 1 ∧ L.put us = []) := by unfold Hid L.putE L.put; rw [hck]; simp
    clear hck
    go_enter Tryd.func30, Tryd.ntmps30
    go_wp2_with fail
    refine HC.out.mono ?_
    rintro e w1 ⟨rfl, hb1⟩
    go_wp2_with fail
    go_ret2
    exact ⟨by rw [hp.out.1, hp.out.2]; rfl, hb1⟩
  | true =>
    rw [hck] at HC
    have hlat := L.check_iff.1 hck
    have h64 := hlat.few
    have hp : Hid (L.putE us = 0 ∧ L.put us = be 1 us.length ++ L.rowBytes us) := by unfold Hid L.putE L.put; rw [hck]; simp
    clear hck hlat
    go_enter Tryd.func30, Tryd.ntmps30
    go_wp2_with fail
    refine HC.out.mono ?_
    rintro e w1 ⟨rfl, hb1⟩
    have HN := Lib.hid (refNum_any us.length 1 (by omega) (by decide) (by decide) w1)
    rw [show ((1 : Nat) : Int) = 1 from rfl] at HN
    clear HC
    go_wp2_with fail
    refine HN.out.mono ?_
    rintro e w2 ⟨rfl, hb⟩
    have hb2 := below_next hb1 hb
    clear hb hb1 HN
    go_wp2_with fail
    go_loopw [5, 6] (fun t i wr => ∃ k : Nat, k ≤ us.length ∧ i = .int .i64 k ∧ t = .string (str (be 1 us.length ++ L.rowBytes (us.take k))) ∧ Below w.heap.size w wr) (fun _ i _ => us.length - (intOf i).toNat)
    case atStart => exact ⟨0, by omega, rfl, by simp [L.rowBytes], hb2⟩
    case round =>
      clear hb2
      obtain ⟨k, hk, rfl, rfl, hbr⟩ := hrel
      by_cases hkl : k < us.length
      · obtain ⟨b, off, rfl, hc⟩ := (HV.out.below hbr).at hkl
        replace hc := hc k hkl
        have hx := HU.out.getD k
        have hs : Hid (str (be 1 us.length ++ L.rowBytes (us.take (k + 1))) = str (be 1 us.length ++ L.rowBytes (us.take k)) ++ str (be 8 (us.getD k 0))) := by unfold Hid; rw [take_getD hkl, L.rowBytes_snoc, str_append, List.append_assoc]
        have hz : (str (be 1 us.length ++ L.rowBytes (us.take k))).size ≤ 100000 := by
          rw [str_size, List.length_append, be_length, L.rowBytes_length, List.length_take]; omega
        obtain ⟨x, hxx⟩ : ∃ x, us.getD k 0 = x := ⟨_, rfl⟩
        rw [hxx] at hc hx hs
        clear hxx
        have HN := Lib.hid (refNum_any x 8 hx (by decide) (by decide) wr)
        rw [show ((8 : Nat) : Int) = 8 from rfl] at HN
        have hz8 : (str (be 8 x)).size = 8 := by rw [str_size, be_length]
        obtain ⟨s8, hs8⟩ : ∃ s, str (be 8 x) = s := ⟨_, rfl⟩
        obtain ⟨s0, hs0⟩ : ∃ s, str (be 1 us.length ++ L.rowBytes (us.take k)) = s := ⟨_, rfl⟩
        rw [hs8] at HN hz8 hs
        rw [hs0] at hz hs ⊢
        clear hs8 hs0
        go_wp2_with fail
        refine HN.out.mono ?_
        rintro e w3 ⟨rfl, hb⟩
        have hb3 := below_next hbr hb
        clear hb hbr HN
        go_wp2_with fail
        go_roundw
        case rel => exact ⟨k + 1, by omega, by go_num, by rw [hs.out], hb3⟩
        case measure => simp [intOf]; omega
      · obtain rfl : k = us.length := by omega
        have hfin : Hid (be 1 us.length ++ L.rowBytes (us.take us.length) = L.put us) := by unfold Hid; rw [hp.out.2, List.take_length]
        go_wp2_with fail
        go_ret2
        exact ⟨by rw [hp.out.1, ← hfin.out]; rfl, hbr⟩
end Go.Proofs.YtnfhhhcbgipmcaaDoor
