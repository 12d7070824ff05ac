/- What the reference's Get returns. -/
import Derived.Test.YtnfhhhcbgipmcaaDoorLatGet
import Derived.BigQuiet
import Derived.Deep.QuietTactic
namespace Go.Proofs.YtnfhhhcbgipmcaaDoor
open Go Go.RowKit

theorem Rk.drew {w : World} {B : Nat} {l : List UInt8} {e : Int} (h : Rk w B l e) : Rk w.drew B l e := h

set_option maxRecDepth 4000 in
set_option maxHeartbeats 1000000 in
theorem refGet_any (l : List UInt8) (w : World) :
    Calls Tryd.prog 32 #[.string (str l)] w fun e w' => ∃ v', e = .returned (.tuple #[v', .int .i64 (L.getE l)]) ∧ Us w' v' (L.get l) ∧ Below w.heap.size w w' := by
  obtain ⟨i0, hi, hz0, hz1, hz2⟩ := info_parts infoU64
  have hsz := str_size l
  go_enter Tryd.func32, Tryd.ntmps32
  go_wp2_with fail
  obtain ⟨w1, hw1⟩ : ∃ w1, w.alloc (.cells #[.string (str l), .int .i64 0] 78) = w1 := ⟨_, rfl⟩
  obtain ⟨B, hB⟩ : ∃ B, w.heap.size = B := ⟨_, rfl⟩
  have HK0 : Hid (Rk w1 B l 0) := by rw [← hw1, ← hB]; exact heap_alloc_new _ _
  have hb1 : Below w.heap.size w w1 := by rw [← hw1]; exact (Below.refl _ _).alloc (Nat.le_refl _) _
  have HB := Lib.hid hB
  rw [hw1, hB]
  rw [hB] at hb1
  clear hw1 hB hsz
  have HN := Lib.hid (rnum_any B 1 l 0 w1 (by decide) (by decide) HK0.out)
  rw [show ((1 : Nat) : Int) = 1 from rfl] at HN
  refine HN.out.mono ?_
  rintro e w2 ⟨rfl, hk⟩
  have hb2 : Below B w w2 := hb1.trans (hk.but.below (Nat.le_refl _))
  have HK := Lib.hid hk.rk
  have h256 := T.tv_one l 0
  have HG := Lib.hid (show L.gotN l = T.nums (T.tv 1 l 0) (T.tl 1 l 0) (T.te 1 l 0) from rfl)
  clear hk HN hb1 HK0
  obtain ⟨N, hN⟩ : ∃ N, T.tv 1 l 0 = N := ⟨_, rfl⟩
  obtain ⟨l1, hl1⟩ : ∃ x, T.tl 1 l 0 = x := ⟨_, rfl⟩
  obtain ⟨e1, he1⟩ : ∃ x, T.te 1 l 0 = x := ⟨_, rfl⟩
  rw [hN] at h256 ⊢
  rw [hN, hl1, he1] at HG
  rw [he1, hl1] at HK
  clear hN hl1 he1
  go_wp2_with fail
  go_loopw [6, 7] (fun t i wr => ∃ (k : Nat), k ≤ N ∧ i = .int .i64 k ∧ Hid (wr.ownsRow B 25 1 t k (u64Cells (T.nums k l1 e1).1)) ∧ Hid (Rk wr B (T.nums k l1 e1).2.1 (T.nums k l1 e1).2.2) ∧ Below B w wr) (fun _ i _ => N - (intOf i).toNat)
  case atStart => exact ⟨0, by omega, rfl, World.ownsRow_nil _ _ _ _, HK, hb2⟩
  case round =>
    clear hb2 HK
    obtain ⟨k, hk, rfl, hr, hrk, hbr⟩ := hrel
    by_cases hkN : k < N
    · have HN := Lib.hid (rnum_any B 8 _ _ wr (by decide) (by decide) hrk.out)
      rw [show ((8 : Nat) : Int) = 8 from rfl] at HN
      have hs : Hid (T.nums (k + 1) l1 e1 = ((T.nums k l1 e1).1 ++ [T.tv 8 (T.nums k l1 e1).2.1 (T.nums k l1 e1).2.2], T.tl 8 (T.nums k l1 e1).2.1 (T.nums k l1 e1).2.2, T.te 8 (T.nums k l1 e1).2.1 (T.nums k l1 e1).2.2)) := rfl
      generalize (T.nums k l1 e1).2.1 = lk at *
      generalize (T.nums k l1 e1).2.2 = ek at *
      generalize (T.nums k l1 e1).1 = xs at *
      go_wp2_with fail
      refine HN.out.mono ?_
      rintro e w3 ⟨rfl, ht⟩
      have hb3 : Below B w w3 := hbr.trans (ht.but.below (Nat.le_refl _))
      have HO := Lib.hid (ownsRow.rbut hrk.out ht.but hr.out (by decide))
      have hne := Lib.hid (rown_ne hrk.out hr.out (by decide))
      have HK := Lib.hid ht.rk
      have hBs : B ≤ w3.heap.size := Nat.le_of_lt HK.out.lt
      clear ht HN hr hrk hbr
      have hdl := T.tv_lt (n := 8) (by decide) lk ek
      obtain ⟨d, hd⟩ : ∃ d, T.tv 8 lk ek = d := ⟨_, rfl⟩
      rw [hd] at hs hdl ⊢
      clear hd
      go_wp2_with (at_builtin; go_must (refine wpList_append_own (w := w3.alloc (.cells #[.int .u64 (d : Int)] 25)) rfl _ _ 22 rfl B 25 i0 (.int .u64 0) 1 8 Tryd.underlying22 hi hz0 hz1 hz2 rfl (by decide) _ _ _ rfl (HO.out.alloc _) ⟨w3.heap.size, 0, none⟩ 1 1 [.int .u64 (d : Int)] rfl rfl (cell_one_new _ _ _) (by simp [Value.oneCell']) (by unfold maxLen; omega) (by omega) (by simp; omega) ?_))
      intro v4 w4 hown4 hgrow _
      have hrel : Hid (w4.ownsRow B 25 1 v4 (k + 1) (u64Cells (T.nums (k + 1) l1 e1).1)) := by
        unfold Hid; rw [hs.out, ← u64_more]; exact hown4
      have hk4 : Hid (Rk w4 B (T.nums (k + 1) l1 e1).2.1 (T.nums (k + 1) l1 e1).2.2) := by
        unfold Hid; rw [hs.out]
        exact Rk.grown (Rk.below HK.out ((Below.refl _ w3).alloc (Nat.le_refl _) _) HK.out.lt) hgrow hne.out
      have hb4 : Below B w w4 := (hb3.alloc hBs _).grown hgrow (by simp; omega) (ownBlock_ge HO.out)
      clear hown4 hgrow HO hne HK hs hb3 hBs
      go_wp2_with fail
      go_roundw
      case rel => exact ⟨k + 1, by omega, by go_num, hrel, hk4, hb4⟩
      case measure => simp [intOf]; omega
    · obtain rfl : k = N := by omega
      rw [← HG.out] at hr hrk
      have hbw : Below w.heap.size w wr := by rw [HB.out]; exact hbr
      have hus := Us.of_owns hr.out
      have hlt : U64s (L.gotN l).1 := T.nums_lt _ _ _
      have c1 := hrk.out.cell1
      clear hr hkN hk
      by_cases hz : (L.gotN l).2.2 = 0
      · rw [hz] at c1 hrk
        have HC := Lib.hid (refCheck_any _ _ wr hus hlt)
        have HRK := Lib.hid hrk.out
        clear hrk
        cases hck : L.check (L.gotN l).1 with
        | false =>
          rw [hck] at HC
          have hf := Lib.hid (L.getE_form hz (by rw [hck]; simp))
          clear hz hck HG
          go_wp2_with fail
          refine HC.out.mono ?_
          rintro e w5 ⟨rfl, hb5⟩
          clear c1
          go_wp2_with fail
          go_ret2
          exact ⟨_, by rw [hf.out.1]; rfl, by rw [hf.out.2]; exact Us.nil _, below_next hbw hb5⟩
        | true =>
          rw [hck] at HC
          by_cases hd : (L.gotN l).2.1 = []
          · have hf := Lib.hid (L.getE_good hz hck hd)
            rw [hd] at HRK
            clear hz hck hd HG
            go_wp2_with fail
            refine HC.out.mono ?_
            rintro e w5 ⟨rfl, hb5⟩
            have c0 := (Rk.below HRK.out hb5 HRK.out.lt).cell0
            rw [show str [] = { data := #[] } from rfl] at c0
            clear c1
            go_wp2_with fail
            go_ret2
            exact ⟨_, by rw [hf.out.1]; rfl, by rw [hf.out.2]; exact hus.below hb5, below_next hbw hb5⟩
          · have hf := Lib.hid (L.getE_form hz (fun h => hd h.2))
            obtain ⟨s, hs⟩ : ∃ s, str (L.gotN l).2.1 = s := ⟨_, rfl⟩
            have dd : s.toList.isEmpty = false := by rw [← hs, str_toList]; simpa using hd
            have HCC := Lib.hid (fun W (hW : Below wr.heap.size wr W) => (Rk.below HRK.out hW HRK.out.lt).cell0)
            rw [hs] at HCC
            clear hz hck hd HG hs
            go_wp2_with fail
            refine HC.out.mono ?_
            rintro e w5 ⟨rfl, hb5⟩
            have c0 := HCC.out _ hb5
            clear c1
            go_wp2_with fail
            go_ret2
            exact ⟨_, by rw [hf.out.1]; rfl, by rw [hf.out.2]; exact Us.nil _, below_next hbw hb5⟩
      · have hf := Lib.hid (L.getE_bad hz)
        obtain ⟨ee, hee⟩ : ∃ ee, (L.gotN l).2.2 = ee := ⟨_, rfl⟩
        rw [hee] at c1 hf hz
        have de : (ee != 0) = true := by simp [hz]
        clear hee hz HG hrk hus hlt
        go_wp2_with fail
        go_quiet (fail)
        go_wp2_with fail
        go_ret2
        exact ⟨_, by rw [hf.out.1]; rfl, by rw [hf.out.2]; exact Us.nil _, below_next hbw (below_drewN _ _)⟩
end Go.Proofs.YtnfhhhcbgipmcaaDoor
