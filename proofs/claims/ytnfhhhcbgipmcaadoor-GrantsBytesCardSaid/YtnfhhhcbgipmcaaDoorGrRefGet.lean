/- What the reference's Get of grants returns. -/
import Derived.Test.YtnfhhhcbgipmcaaDoorGrGet
import Derived.BigQuiet
import Derived.Deep.QuietTactic
namespace Go.Proofs.YtnfhhhcbgipmcaaDoor
open Go Go.RowKit

theorem conv8 {d : Nat} (h : d < 256) : IntKind.i64.wrap (d : Int) = (d : Int) := by rw [IntKind.wrap_i64]; omega

set_option maxRecDepth 4000 in
set_option maxHeartbeats 2000000 in
theorem refGget_any (l : List UInt8) (w : World) :
    Calls Tryd.prog 45 #[.string (str l)] w fun e w' => ∃ v', e = .returned (.tuple #[v', .int .i64 (L.ggetE l)]) ∧ Gs w' v' (L.gget l) ∧ Below w.heap.size w w' := by
  have hsz := str_size l
  go_enter Tryd.func45, Tryd.ntmps45
  go_wp2_with fail
  obtain ⟨w1, hw1⟩ : ∃ w1, w.alloc (.cells #[.string (str l), .int .i64 0] 78) = w1 := ⟨_, rfl⟩
  obtain ⟨B, hB⟩ : ∃ B, w.heap.size = B := ⟨_, rfl⟩
  have HK0 : Hid (Rk w1 B l 0) := by rw [← hw1, ← hB]; exact heap_alloc_new _ _
  have hb1 : Below w.heap.size w w1 := by rw [← hw1]; exact (Below.refl _ _).alloc (Nat.le_refl _) _
  have HB := Lib.hid hB
  rw [hw1, hB]
  rw [hB] at hb1
  clear hw1 hB hsz
  have HN := Lib.hid (rnum_any B 1 l 0 w1 (by decide) (by decide) HK0.out)
  rw [show ((1 : Nat) : Int) = 1 from rfl] at HN
  refine HN.out.mono ?_
  rintro e w2 ⟨rfl, hk⟩
  have hb2 : Below B w w2 := hb1.trans (hk.but.below (Nat.le_refl _))
  have HK := Lib.hid hk.rk
  have h256 := T.tv_one l 0
  have HG := Lib.hid (show L.gotG l = L.ggots (T.tv 1 l 0) (T.tl 1 l 0) (T.te 1 l 0) from rfl)
  clear hk HN hb1 HK0
  obtain ⟨N, hN⟩ : ∃ N, T.tv 1 l 0 = N := ⟨_, rfl⟩
  obtain ⟨l1, hl1⟩ : ∃ x, T.tl 1 l 0 = x := ⟨_, rfl⟩
  obtain ⟨e1, he1⟩ : ∃ x, T.te 1 l 0 = x := ⟨_, rfl⟩
  rw [hN] at h256 ⊢
  rw [hN, hl1, he1] at HG
  rw [he1, hl1] at HK
  clear hN hl1 he1
  go_wp2_with fail
  go_loopw [6, 7] (fun t i wr => ∃ (k : Nat), k ≤ N ∧ i = .int .i64 k ∧ Hid (wr.ownsRow B 47 3 t k (GR.cells (L.ggots k l1 e1).1)) ∧ Hid (Rk wr B (L.ggots k l1 e1).2.1 (L.ggots k l1 e1).2.2) ∧ Below B w wr) (fun _ i _ => N - (intOf i).toNat)
  case atStart => exact ⟨0, by omega, rfl, World.ownsRow_nil _ _ _ _, HK, hb2⟩
  case round =>
    clear hb2 HK
    obtain ⟨k, hk, rfl, hr, hrk, hbr⟩ := hrel
    by_cases hkN : k < N
    · have hs : Hid (L.ggots (k + 1) l1 e1 = ((L.ggots k l1 e1).1 ++ [L.ggr (L.ggots k l1 e1).2.1 (L.ggots k l1 e1).2.2], (L.gst (L.ggots k l1 e1).2.1 (L.ggots k l1 e1).2.2 3).1, (L.gst (L.ggots k l1 e1).2.1 (L.ggots k l1 e1).2.2 3).2)) := rfl
      generalize (L.ggots k l1 e1).2.1 = lk at *
      generalize (L.ggots k l1 e1).2.2 = ek at *
      generalize (L.ggots k l1 e1).1 = xs at *
      have hgr : Hid (L.ggr lk ek = ((L.gval lk ek 0 : Int), (L.gval lk ek 1 : Int), (L.gval lk ek 2 : Int))) := rfl
      have HN0 := Lib.hid (rnum_any B 1 lk ek wr (by decide) (by decide) hrk.out)
      rw [show ((1 : Nat) : Int) = 1 from rfl, show T.tv 1 lk ek = L.gval lk ek 0 from rfl] at HN0
      have v0 : L.gval lk ek 0 < 256 := T.tv_one _ _
      have v1 : L.gval lk ek 1 < 256 := T.tv_one _ _
      have v2 : L.gval lk ek 2 < 256 := T.tv_one _ _
      have hne := Lib.hid (rown_ne hrk.out hr.out (by decide))
      have HN1 := Lib.hid (fun W (hW : Rk W B (L.gst lk ek 1).1 (L.gst lk ek 1).2) => rnum_any B 1 _ _ W (by decide) (by decide) hW)
      have HN2 := Lib.hid (fun W (hW : Rk W B (L.gst lk ek 2).1 (L.gst lk ek 2).2) => rnum_any B 1 _ _ W (by decide) (by decide) hW)
      rw [show ((1 : Nat) : Int) = 1 from rfl, show T.tv 1 (L.gst lk ek 1).1 (L.gst lk ek 1).2 = L.gval lk ek 1 from rfl] at HN1
      rw [show ((1 : Nat) : Int) = 1 from rfl, show T.tv 1 (L.gst lk ek 2).1 (L.gst lk ek 2).2 = L.gval lk ek 2 from rfl] at HN2
      generalize L.gval lk ek 0 = g0 at *
      generalize L.gval lk ek 1 = g1 at *
      generalize L.gval lk ek 2 = g2 at *
      have w0' := conv8 v0
      have w1' := conv8 v1
      have w2' := conv8 v2
      go_wp2_with fail
      refine HN0.out.mono ?_
      rintro e w3 ⟨rfl, ht⟩
      have hb3 : Below B w w3 := hbr.trans (ht.but.below (Nat.le_refl _))
      have O3 := Lib.hid (ownsRow.rbut hrk.out ht.but hr.out (by decide))
      have K3 : Hid (Rk w3 B (L.gst lk ek 1).1 (L.gst lk ek 1).2) := ht.rk
      clear ht HN0 hr hrk hbr
      go_wp2_with fail
      refine (HN1.out w3 K3.out).mono ?_
      rintro e w4 ⟨rfl, ht⟩
      have hb4 : Below B w w4 := hb3.trans (ht.but.below (Nat.le_refl _))
      have O4 := Lib.hid (ownsRow.rbut K3.out ht.but O3.out (by decide))
      have K4 : Hid (Rk w4 B (L.gst lk ek 2).1 (L.gst lk ek 2).2) := ht.rk
      clear ht HN1 O3 K3 hb3
      go_wp2_with fail
      refine (HN2.out w4 K4.out).mono ?_
      rintro e w5 ⟨rfl, ht⟩
      have hb5 : Below B w w5 := hb4.trans (ht.but.below (Nat.le_refl _))
      have O5 := Lib.hid (ownsRow.rbut K4.out ht.but O4.out (by decide))
      have K5 : Hid (Rk w5 B (L.gst lk ek 3).1 (L.gst lk ek 3).2) := ht.rk
      have hBs : B ≤ w5.heap.size := Nat.le_of_lt K5.out.lt
      clear ht HN2 O4 K4 hb4
      have HO := Lib.hid (O5.out.alloc (.cells #[.int .i64 (g0 : Int), .int .i64 (g1 : Int), .int .i64 (g2 : Int)] 47))
      have HS : Hid (Sl (w5.alloc (.cells #[.int .i64 (g0 : Int), .int .i64 (g1 : Int), .int .i64 (g2 : Int)] 47)) 3 1 (.slice (some ⟨w5.heap.size, 0, none⟩) 1 1) (GR.cells [((g0 : Int), (g1 : Int), (g2 : Int))])) := Sl.lit w5 47 3 1 #[.int .i64 (g0 : Int), .int .i64 (g1 : Int), .int .i64 (g2 : Int)] (0, 0) rfl (by decide)
      have hb6 := hb5.alloc hBs (.cells #[.int .i64 (g0 : Int), .int .i64 (g1 : Int), .int .i64 (g2 : Int)] 47)
      have hB6 : B ≤ (w5.alloc (.cells #[.int .i64 (g0 : Int), .int .i64 (g1 : Int), .int .i64 (g2 : Int)] 47)).heap.size := by simp; omega
      have hT6 : Hid (Rk (w5.alloc (.cells #[.int .i64 (g0 : Int), .int .i64 (g1 : Int), .int .i64 (g2 : Int)] 47)) B (L.gst lk ek 3).1 (L.gst lk ek 3).2) := Rk.below K5.out ((Below.refl _ w5).alloc (Nat.le_refl _) _) K5.out.lt
      clear O5 K5 hb5 hBs
      go_wp2_with (at_builtin; go_must (refine wpList_append_sl rfl _ _ 44 rfl B 47 _ 3 24 Tryd.underlying44 infoGr rfl (by decide) _ _ _ rfl HO.out _ 1 (GR.cells [((g0 : Int), (g1 : Int), (g2 : Int))]) rfl HS.out (gr_oneCell _) (by unfold maxLen; omega) (by omega) hB6 ?_))
      intro v7 w7 hown7 hgrow _
      have hrel : Hid (w7.ownsRow B 47 3 v7 (k + 1) (GR.cells (L.ggots (k + 1) l1 e1).1)) := by
        unfold Hid; rw [hs.out, GR.cells_append, hgr.out]; exact hown7
      have hk7 : Hid (Rk w7 B (L.ggots (k + 1) l1 e1).2.1 (L.ggots (k + 1) l1 e1).2.2) := by
        unfold Hid; rw [hs.out]
        exact Rk.grown hT6.out hgrow hne.out
      have hb7 : Below B w w7 := hb6.grown hgrow hB6 (ownBlock_ge HO.out)
      clear hown7 hgrow HO HS hT6 hb6 hs hne hB6 w0' w1' w2'
      go_wp2_with fail
      go_roundw
      case rel => exact ⟨k + 1, by omega, by go_num, hrel, hk7, hb7⟩
      case measure => simp [intOf]; omega
    · obtain rfl : k = N := by omega
      rw [← HG.out] at hr hrk
      have hbw : Below w.heap.size w wr := by rw [HB.out]; exact hbr
      have hgs : Gs wr u6 (L.gotG l).1 := Three.Ss.of_owns hr.out
      have hlen : (L.gotG l).1.length = k := by rw [HG.out]; exact L.ggots_length _ _ _
      have c1 := hrk.out.cell1
      have HGS := Lib.hid hgs
      clear hr hkN hk hgs
      by_cases hz : (L.gotG l).2.2 = 0
      · rw [hz] at c1 hrk
        have c0 := hrk.out.cell0
        clear hrk
        by_cases h64 : 64 < k
        · have d64 : decide ((64 : Int) < (k : Int)) = true := by simp; omega
          have hf := Lib.hid (L.ggetE_form hz (fun h => by have := h.1; omega))
          clear hz HG h64 hlen c0
          go_wp2_with fail
          go_ret2
          exact ⟨_, by rw [hf.out.1]; rfl, by rw [hf.out.2]; exact Three.Ss.nil _, hbw⟩
        · have d64 : decide ((64 : Int) < (k : Int)) = false := by simp; omega
          by_cases hd : (L.gotG l).2.1 = []
          · have hf := Lib.hid (L.ggetE_good hz (by omega) hd)
            rw [hd, show str [] = { data := #[] } from rfl] at c0
            clear hz hd HG h64 hlen
            go_wp2_with fail
            go_ret2
            exact ⟨_, by rw [hf.out.1]; rfl, by rw [hf.out.2]; exact HGS.out, hbw⟩
          · have hf := Lib.hid (L.ggetE_form hz (fun h => hd h.2))
            obtain ⟨s, hs⟩ : ∃ s, str (L.gotG l).2.1 = s := ⟨_, rfl⟩
            have dd : s.toList.isEmpty = false := by rw [← hs, str_toList]; simpa using hd
            rw [hs] at c0
            clear hz hd HG h64 hlen hs
            go_wp2_with fail
            go_ret2
            exact ⟨_, by rw [hf.out.1]; rfl, by rw [hf.out.2]; exact Three.Ss.nil _, hbw⟩
      · have hf := Lib.hid (L.ggetE_bad hz)
        obtain ⟨ee, hee⟩ : ∃ ee, (L.gotG l).2.2 = ee := ⟨_, rfl⟩
        rw [hee] at c1 hf hz
        have de : (ee != 0) = true := by simp [hz]
        clear hee hz HG hrk hlen
        go_wp2_with fail
        go_quiet (fail)
        go_wp2_with fail
        go_ret2
        exact ⟨_, by rw [hf.out.1]; rfl, by rw [hf.out.2]; exact Three.Ss.nil _, below_next hbw (below_drewN _ _)⟩
end Go.Proofs.YtnfhhhcbgipmcaaDoor
