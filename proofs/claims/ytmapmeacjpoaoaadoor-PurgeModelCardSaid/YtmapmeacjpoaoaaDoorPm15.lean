/- What the model's write does. -/
import Derived.Test.YtmapmeacjpoaoaaDoorPm14
namespace Go.Proofs.YtmapmeacjpoaoaaDoor
open Go Go.RowKit

namespace M
theorem write_bad {m : St} {o : Opr} {c : Int} (h : wbad m o = c) (hc : c ≠ 0) : write m o = (bad c, m) := by
  unfold write
  rw [h, if_neg hc]
theorem write_ok {m : St} {o : Opr} (h : wbad m o = 0) : write m o = (ok, { m with dr := m.dr.set o.level.toNat (wnew (m.dr.getD o.level.toNat []) o) }) := by
  unfold write
  rw [h, if_pos rfl]
end M

/-- What decides a write. -/
def M.wb (h s k : Int) (b9 b10 : Bool) (len : Nat) (f1 f2 : Int) : Int :=
  if h != s then 35 else if (decide (k = 5) && !b9) || (decide (k = 7) && (!b10 || decide (400 < len))) then 34 else if decide (k = 5) && decide (0 ≤ f1) then 38 else if !(decide (k = 5)) && !(decide (0 ≤ f1)) then 32 else if decide (k = 8) && (!b10 || decide (f2 < 0)) then 33 else 0
theorem M.wbad_eq (m : St) (o : Opr) : M.wbad m o = M.wb (m.has.getD o.level.toNat 0) o.ses o.kind (M.text o.bucket 15) (M.text o.key 16) o.val.length (M.find (m.dr.getD o.level.toNat []) o.bucket []) (M.find (m.dr.getD o.level.toNat []) o.bucket o.key) := rfl
set_option maxRecDepth 4000 in
set_option maxHeartbeats 4000000 in
theorem write_any (G : Nat → Prop) (w : World) (B n : Nat) (vn vu vq vg : Value) (X : Mv) (m : St) (o : Opr) (u : Value) (h : Mem G w B n vn vu vq vg X m) (h0 : 0 ≤ o.level) (h1 : o.level < n) (hk : (m.dr.getD o.level.toNat []).length ≤ 100000) :
    Calls Tryd.prog 29 #[.pointer (some ⟨B, 0, none⟩), opv (o.put u), .bool false] w (MutPost G w B n vn vu vq vg X (M.write m o).1 (M.write m o).2) := by
  have hE := (Ent.box h.mr o u).alloc ((Below.refl _ _).alloc (Nat.le_refl _) (.cells #[.int .i64 0, .int .i64 0, (.slice none 0 0), .int .i64 0, .int .i64 0, .int .i64 0, .int .i64 0, (.slice none 0 0)] 45))
  have hR : Rb ((w.alloc (.cells (opc o u) 33)).alloc (.cells #[.int .i64 0, .int .i64 0, (.slice none 0 0), .int .i64 0, .int .i64 0, .int .i64 0, .int .i64 0, (.slice none 0 0)] 45)) (w.alloc (.cells (opc o u) 33)).heap.size 0 0 (.slice none 0 0) (.slice none 0 0) := heap_alloc_new _ _
  have hR2 : w.heap.size < (w.alloc (.cells (opc o u) 33)).heap.size := by simp
  have hR3 : (w.alloc (.cells (opc o u) 33)).heap.size < ((w.alloc (.cells (opc o u) 33)).alloc (.cells #[.int .i64 0, .int .i64 0, (.slice none 0 0), .int .i64 0, .int .i64 0, .int .i64 0, .int .i64 0, (.slice none 0 0)] 45)).heap.size := by simp
  obtain ⟨w2, hw2⟩ : ∃ w2, (w.alloc (.cells (opc o u) 33)).alloc (.cells #[.int .i64 0, .int .i64 0, (.slice none 0 0), .int .i64 0, .int .i64 0, .int .i64 0, .int .i64 0, (.slice none 0 0)] 45) = w2 := ⟨_, rfl⟩
  obtain ⟨R, hRR⟩ : ∃ R, (w.alloc (.cells (opc o u) 33)).heap.size = R := ⟨_, rfl⟩
  have hRQ : w.heap.size + 1 = R := by rw [← hRR]; simp
  obtain ⟨Qo, hQo⟩ : ∃ Qo, w.heap.size = Qo := ⟨_, rfl⟩
  rw [hw2] at hE hR hR3
  rw [hRR] at hR hR2 hR3
  have HE := Lib.hid hE
  have HR2 := Lib.hid hR2
  have HM := Lib.hid (h.wide hE.b (Nat.le_of_lt hR2) hR3)
  have HLT := Lib.hid h.lt
  have HXG := Lib.hid h.g
  have HRb : Hid (∀ W, Ex (X.foot B) w2 W → Rb W R 0 0 (.slice none 0 0) (.slice none 0 0)) := fun W hW => hR.ex hW fun hf => by
    have := h.lt R (h.g R hf)
    omega
  have HNE : Hid (X.bD ≠ B ∧ X.bD ≠ Qo) := ⟨h.ne.2.2.2.1, fun e => by
    have := h.lt X.bD (h.g _ (by unfold Mv.foot; simp))
    omega⟩
  obtain ⟨o0, o1, o2, o3, o4, o5, o6, o7, o8, o9, kk⟩ := o
  simp only [] at h0 h1 hk
  obtain ⟨x, rfl⟩ : ∃ x : Nat, o1 = (x : Int) := ⟨o1.toNat, by omega⟩
  rw [Int.toNat_natCast] at hk
  have hxn : x < n := by omega
  have HXn := Lib.hid hxn
  have HWB : Hid (M.wbad m ⟨o0, (x : Int), o2, o3, o4, o5, o6, o7, o8, o9, kk⟩ = _) := M.wbad_eq m ⟨o0, (x : Int), o2, o3, o4, o5, o6, o7, o8, o9, kk⟩
  simp only [Int.toNat_natCast] at HWB
  obtain ⟨vd, -, hcv, hvd⟩ := HE.out.m.listD hxn
  have HVD0 : Hid (∀ W, Below w2.heap.size w2 W → W.cell? ⟨X.bD, x, none⟩ = some vd) := fun W hW => (hW.cell ((HM.out.lt X.bD (.inl (h.g _ (by unfold Mv.foot; simp)))))).trans hcv
  have HH0 : Hid (∀ W, Below w2.heap.size w2 W → W.cell? ⟨X.bH, x, none⟩ = some (.int .i64 (m.has.getD x 0))) := fun W hW => (HE.out.m.below hW).hasAt hxn
  obtain ⟨D, hD⟩ : ∃ D, m.dr.getD x [] = D := ⟨_, rfl⟩
  have HDD := Lib.hid hD
  have HDK := Lib.hid (hD ▸ hk)
  rw [hD] at hvd HWB
  obtain ⟨av, cv, hv, -⟩ := hvd.shape
  subst hv
  obtain ⟨N, hN⟩ : ∃ N, D.length = N := ⟨_, rfl⟩
  rw [hN] at hvd HVD0
  have HVD : Hid (∀ W, Below w2.heap.size w2 W → Es W (.slice av N cv) D) := fun W hW => Sl.below hvd hW
  obtain ⟨hx, hhx⟩ : ∃ z, m.has.getD x 0 = z := ⟨_, rfl⟩
  rw [hhx] at HWB HH0
  have HF1 : Hid (∀ W, Below w2.heap.size w2 W → Calls Tryd.prog 48 #[.slice av N cv, .string (str o4), .string (str [])] W fun e w' => e = .returned (.int .i64 (M.find D o4 [])) ∧ W = w') := fun W hW => mfind_any (.slice av N cv) D o4 [] W (HVD.out W hW)
  have HF2 : Hid (∀ W, Below w2.heap.size w2 W → Calls Tryd.prog 48 #[.slice av N cv, .string (str o4), .string (str o5)] W fun e w' => e = .returned (.int .i64 (M.find D o4 o5)) ∧ W = w') := fun W hW => mfind_any (.slice av N cv) D o4 o5 W (HVD.out W hW)
  have HT1 : Hid (∀ W, Calls Tryd.prog 56 #[.string (str o4), .int .i64 15] W fun e w' => e = .returned (.bool (M.text o4 15)) ∧ W = w') := fun W => mtext_any o4 15 (by decide) W
  have HT2 : Hid (∀ W, Calls Tryd.prog 56 #[.string (str o5), .int .i64 16] W fun e w' => e = .returned (.bool (M.text o5 16)) ∧ W = w') := fun W => mtext_any o5 16 (by decide) W
  obtain ⟨f1, hf1⟩ : ∃ z, M.find D o4 [] = z := ⟨_, rfl⟩
  obtain ⟨f2, hf2⟩ : ∃ z, M.find D o4 o5 = z := ⟨_, rfl⟩
  obtain ⟨b9, hb9⟩ : ∃ z, M.text o4 15 = z := ⟨_, rfl⟩
  obtain ⟨b10, hb10⟩ : ∃ z, M.text o5 16 = z := ⟨_, rfl⟩
  rw [hf1] at HF1 HWB
  rw [hf2] at HF2 HWB
  rw [hb9] at HT1 HWB
  rw [hb10] at HT2 HWB
  have hx0 : (0 : Int) ≤ (x : Int) := by omega
  have hxI : (x : Int) < (n : Int) := by omega
  simp only [Op11.put, opc] at hw2 ⊢
  rw [hQo] at hRQ HE
  clear h hE hR hR2 hR3 hRR hk hvd hcv hD hN hhx hf1 hf2 hb9 hb10 h0 h1
  go_enter Tryd.func29, Tryd.ntmps29
  go_wp2_with fail
  clear hw2 hQo hRQ
  have hb2 : Hid (Below w2.heap.size w2 w2) := Below.refl _ _
  have c6 := HE.out.m.b.cells.c6
  obtain ⟨-, p1, p2, -⟩ := HE.out.at hb2.out
  simp only [] at p1 p2
  have hh := HH0.out w2 hb2.out
  go_quiet (fail)
  have hb3 := Lib.hid (below_next hb2.out (below_drewN w2 nq))
  generalize w2.drewN nq = w3 at *
  clear hb2 c6 p1 p2 hh
  by_cases hs : hx = o2
  · skip
    have ee : (hx == o2) = true := by simp [hs]
    have en : (hx != o2) = false := by simp [hs]
    have ed : decide (hx = o2) = true := by simp [hs]
    have c7 := (HE.out.m.b.below hb3.out).cells.c7
    obtain ⟨-, p1, -⟩ := HE.out.at hb3.out
    simp only [] at p1
    have hh := HVD0.out w3 hb3.out
    go_wp2_with fail
    go_quiet (fail)
    have hb4 := Lib.hid (below_next hb3.out (below_drewN w3 nq))
    generalize w3.drewN nq = w6 at *
    clear hb3 c7 p1 hh
    obtain ⟨p0, -, -, -, p4, p5, p6, -⟩ := HE.out.at hb4.out
    simp only [] at p0 p4 p5 p6
    have hb6 := hb4
    clear hb4
    have H4 := HF1.out w6 hb6.out
    have H5 := HT1.out w6
    have H6 := HT2.out w6
    go_wp2_with fail
    refine H4.mono ?_
    rintro e w6' ⟨rfl, rfl⟩
    go_wp2_with fail
    refine H5.mono ?_
    rintro e w6' ⟨rfl, rfl⟩
    go_wp2_with fail
    refine H6.mono ?_
    rintro e w6' ⟨rfl, rfl⟩
    clear H4 H5 H6
    by_cases hk5 : o0 = 5
    · subst hk5
      have dk5 : decide ((5 : Int) = 5) = true := by decide
      have ek5 : ((5 : Int) == 5) = true := by decide
      have dk6 : decide ((5 : Int) = 6) = false := by decide
      have ek6 : ((5 : Int) == 6) = false := by decide
      have dk7 : decide ((5 : Int) = 7) = false := by decide
      have ek7 : ((5 : Int) == 7) = false := by decide
      have dk8 : decide ((5 : Int) = 8) = false := by decide
      have ek8 : ((5 : Int) == 8) = false := by decide
      cases b9 with
      | false =>
        have HRES : Hid (M.write m ⟨5, (x : Int), o2, o3, o4, o5, o6, o7, o8, o9, kk⟩ = (M.bad 34, m)) := M.write_bad (by rw [HWB.out]; simp [M.wb, hs]) (by decide)
        have st := Lib.hid (not_any 34 w6)
        go_wp2_with fail
        refine st.out.mono ?_
        rintro e wn ⟨rfl, hx⟩
        have hbn := Lib.hid (below_next hb6.out hx)
        have HMn := Lib.hid (HM.out.below hbn.out)
        have HXn : Hid (Ex (X.foot B) w2 wn) := Ex.of_below hbn.out
        clear st hx hb6 hbn
        have hrb := HRb.out wn HXn.out
        obtain ⟨⟨v0, z0⟩, ⟨v1, z1⟩, ⟨v2, z2⟩, ⟨v3, z3⟩, ⟨v4, z4⟩, ⟨v5, z5⟩, ⟨v6, z6⟩, ⟨v7, z7⟩⟩ := hrb.olds
        have y0 := hrb.go 0
        have y1 := hrb.go 1
        have y2 := hrb.go 2
        have y3 := hrb.go 3
        have y4 := hrb.go 4
        have y5 := hrb.go 5
        have y6 := hrb.go 6
        have y7 := hrb.go 7
        clear hrb
        go_wp2_with fail
        refine bodyPost_ret (res_results rfl _ _ R 34 0 (.slice none 0 0) (.slice none 0 0) rfl ((HRb.out wn HXn.out).put 34 0 (.slice none 0 0) (.slice none 0 0))) rfl ?_
        have HF1 : Ending.returned (resv 34 0 (.slice none 0 0) (.slice none 0 0)) = Ending.returned (resv (M.write m ⟨5, (x : Int), o2, o3, o4, o5, o6, o7, o8, o9, kk⟩).1.e (M.write m ⟨5, (x : Int), o2, o3, o4, o5, o6, o7, o8, o9, kk⟩).1.n (.slice none 0 0) (.slice none 0 0)) := by rw [HRES.out] <;> rfl
        have HF2 : Left G w (rbw wn R 34 0 (.slice none 0 0) (.slice none 0 0)) B n vn vu vq vg X X (M.write m ⟨5, (x : Int), o2, o3, o4, o5, o6, o7, o8, o9, kk⟩).2 := by
          rw [HRES.out]
          exact Left.res1 HLT.out HXG.out HMn.out (Ex.trans (Ex.of_below HE.out.b) HXn.out) (Nat.le_of_lt HR2.out) rfl 34 0 (.slice none 0 0) (.slice none 0 0)
        unfold MutPost
        exact ⟨_, HF1, HF2⟩
      | true =>
        by_cases hf1 : 0 ≤ f1
        · have d1 : decide (0 ≤ f1) = true := by simp [hf1]
          have HRES : Hid (M.write m ⟨5, (x : Int), o2, o3, o4, o5, o6, o7, o8, o9, kk⟩ = (M.bad 38, m)) := M.write_bad (by rw [HWB.out]; simp [M.wb, hs, hf1]) (by decide)
          have st := Lib.hid (not_any 38 w6)
          go_wp2_with fail
          refine st.out.mono ?_
          rintro e wn ⟨rfl, hx⟩
          have hbn := Lib.hid (below_next hb6.out hx)
          have HMn := Lib.hid (HM.out.below hbn.out)
          have HXn : Hid (Ex (X.foot B) w2 wn) := Ex.of_below hbn.out
          clear st hx hb6 hbn
          have hrb := HRb.out wn HXn.out
          obtain ⟨⟨v0, z0⟩, ⟨v1, z1⟩, ⟨v2, z2⟩, ⟨v3, z3⟩, ⟨v4, z4⟩, ⟨v5, z5⟩, ⟨v6, z6⟩, ⟨v7, z7⟩⟩ := hrb.olds
          have y0 := hrb.go 0
          have y1 := hrb.go 1
          have y2 := hrb.go 2
          have y3 := hrb.go 3
          have y4 := hrb.go 4
          have y5 := hrb.go 5
          have y6 := hrb.go 6
          have y7 := hrb.go 7
          clear hrb
          go_wp2_with fail
          refine bodyPost_ret (res_results rfl _ _ R 38 0 (.slice none 0 0) (.slice none 0 0) rfl ((HRb.out wn HXn.out).put 38 0 (.slice none 0 0) (.slice none 0 0))) rfl ?_
          have HF1 : Ending.returned (resv 38 0 (.slice none 0 0) (.slice none 0 0)) = Ending.returned (resv (M.write m ⟨5, (x : Int), o2, o3, o4, o5, o6, o7, o8, o9, kk⟩).1.e (M.write m ⟨5, (x : Int), o2, o3, o4, o5, o6, o7, o8, o9, kk⟩).1.n (.slice none 0 0) (.slice none 0 0)) := by rw [HRES.out] <;> rfl
          have HF2 : Left G w (rbw wn R 38 0 (.slice none 0 0) (.slice none 0 0)) B n vn vu vq vg X X (M.write m ⟨5, (x : Int), o2, o3, o4, o5, o6, o7, o8, o9, kk⟩).2 := by
            rw [HRES.out]
            exact Left.res1 HLT.out HXG.out HMn.out (Ex.trans (Ex.of_below HE.out.b) HXn.out) (Nat.le_of_lt HR2.out) rfl 38 0 (.slice none 0 0) (.slice none 0 0)
          unfold MutPost
          exact ⟨_, HF1, HF2⟩
        · have d1 : decide (0 ≤ f1) = false := by simp [hf1]
          have HRES : Hid (M.write m ⟨5, (x : Int), o2, o3, o4, o5, o6, o7, o8, o9, kk⟩ = (M.ok, { m with dr := m.dr.set x (M.with_ (m.dr.getD x []) (o4, [], [])) })) := by
            have h := M.write_ok (m := m) (o := ⟨5, (x : Int), o2, o3, o4, o5, o6, o7, o8, o9, kk⟩) (by rw [HWB.out]; simp [M.wb, hs, hf1])
            unfold Hid
            rw [h]
            simp [M.wnew]
          rw [HDD.out] at HRES
          clear HWB
          go_wp2_with fail
          refine Two.Ph.wp_region_mix3 Two.Ph.eq_grow (ex_grow' (fun k => k = X.bD)) (fun _ _ h => h ▸ Ex.refl _ _) [10, 12] [(0, 0), (1, 0), (2, 0), (3, 0), (4, 0), (5, 0), (6, 2), (7, 2), (8, 2), (9, 2), (10, 1), (11, 0), (12, 1)] (by kernel_rfl) (by kernel_rfl) ?_
          have hb7 := Lib.hid (below_next hb6.out (Below.drew (Below.refl _ _)))
          generalize w6.drew = w7 at *
          clear hb6
          have c7 : ∀ z : LaterR (Ex (fun k => k = X.bD)) w7, z.1.cell? ⟨B, 7, none⟩ = some (slv X.bD n) := fun z => (ex_cell z.2 (Nat.lt_of_lt_of_le HE.out.m.b.lt hb7.out.size) (fun e => HNE.out.1 e.symm)).trans (HE.out.m.b.below hb7.out).cells.c7
          have p1 : ∀ z : LaterR (Ex (fun k => k = X.bD)) w7, z.1.cell? ⟨Qo, 1, none⟩ = some (.int .i64 (x : Int)) := fun z => (ex_cell z.2 (Nat.lt_of_lt_of_le HE.out.lo hb7.out.size) (fun e => HNE.out.2 e.symm)).trans (HE.out.at hb7.out).2.1
          obtain ⟨-, -, -, -, p4, p5, p6, -, -, -, -⟩ := HE.out.at hb7.out
          simp only [] at p4 p5 p6
          have HL := Lib.hid (mwith_any (.slice av N cv) D o4 [] [] w7 (HVD.out w7 hb7.out) HDK.out)
          repeat ((first | refine Two.Ph.mix3_soft rfl (fun K hK => ?_) | refine Two.Ph.mix3_soon rfl (fun K hK => ?_)); go_simp; (first | (refine hK _ ?_; clear hK K) | (apply Exists.intro; refine ⟨fun z => ?_, hK _ ?_⟩; (first | done); clear hK K)))
          clear c7 p1 p4 p5 p6
          refine Two.Ph.mix3_loud rfl (fun K hK => ?_)
          go_simp
          refine ⟨Ex.refl _ _, HL.out.mono ?_⟩
          rintro e w8 ⟨v8, rfl, hown, hx8⟩
          refine ⟨_, rfl, Ex.of_below hx8, hK _ _ ?_⟩
          clear hK K HL
          obtain ⟨b8, N8, c8, rfl⟩ : ∃ a N c, v8 = .slice a N c := by
            obtain ⟨a, c, e, -⟩ := (Eo.es hown).shape
            exact ⟨a, _, c, e⟩
          have hb8 := Lib.hid (below_next hb7.out hx8)
          have HM8 := Lib.hid (HM.out.below hb8.out)
          have HN8 : Hid (Fz (fun k => G k ∨ k = R) w8 (fun W => Es W (.slice b8 N8 c8) (M.with_ (D) (o4, [], [])))) := Eo.fz hown (fun k hk => (HM.out.below hb7.out).lt k hk)
          obtain ⟨⟨q8, hq8⟩, hf8⟩ := own_go1 HM8.out.b.oD HXn.out
          clear hown hx8 hb7
          repeat ((first | refine Two.Ph.mix3_soft rfl (fun K hK => ?_) | refine Two.Ph.mix3_soon rfl (fun K hK => ?_)); go_simp; (first | (refine hK _ ?_; clear hK K) | (apply Exists.intro; refine ⟨fun z => ?_, hK _ ?_⟩; (first | done); clear hK K)))
          refine Two.Ph.mix3_loud rfl (fun K hK => ?_)
          go_simp
          refine ⟨Ex.setCell (G := fun k => k = X.bD) _ _ _ rfl _, hK _ _ ?_⟩
          clear hK K
          refine Two.Ph.mix3_done fun w9 h9 => ?_
          subst h9
          have HM9 := Lib.hid (HM8.out.setD x (.slice b8 N8 c8) (M.with_ (D) (o4, [], [])) HN8.out)
          have HX9 : Hid (Ex (X.foot B) w2 (w8.setCell ⟨X.bD, x, none⟩ (.slice b8 N8 c8))) := (Ex.of_below hb8.out).trans (Ex.setCell w8 X.bD x (by unfold Mv.foot; simp) _)
          clear HM8 HN8 hq8 hf8 hb8
          obtain ⟨w9, hw9⟩ : ∃ w9, w8.setCell ⟨X.bD, x, none⟩ (.slice b8 N8 c8) = w9 := ⟨_, rfl⟩
          rw [hw9] at HM9 HX9 ⊢
          clear hw9
          have hrb := HRb.out w9 HX9.out
          obtain ⟨⟨v0, z0⟩, ⟨v1, z1⟩, ⟨v2, z2⟩, ⟨v3, z3⟩, ⟨v4, z4⟩, ⟨v5, z5⟩, ⟨v6, z6⟩, ⟨v7, z7⟩⟩ := hrb.olds
          have y0 := hrb.go 0
          have y1 := hrb.go 1
          have y2 := hrb.go 2
          have y3 := hrb.go 3
          have y4 := hrb.go 4
          have y5 := hrb.go 5
          have y6 := hrb.go 6
          have y7 := hrb.go 7
          clear hrb
          go_wp2_with fail
          refine bodyPost_ret (res_results rfl _ _ R 0 0 (.slice none 0 0) (.slice none 0 0) rfl ((HRb.out w9 HX9.out).put 0 0 (.slice none 0 0) (.slice none 0 0))) rfl ?_
          have HF1 : Ending.returned (resv 0 0 (.slice none 0 0) (.slice none 0 0)) = Ending.returned (resv (M.write m ⟨5, (x : Int), o2, o3, o4, o5, o6, o7, o8, o9, kk⟩).1.e (M.write m ⟨5, (x : Int), o2, o3, o4, o5, o6, o7, o8, o9, kk⟩).1.n (.slice none 0 0) (.slice none 0 0)) := by rw [HRES.out] <;> rfl
          have HF2 : Left G w (rbw w9 R 0 0 (.slice none 0 0) (.slice none 0 0)) B n vn vu vq vg X { X with ds := X.ds.set x (.slice b8 N8 c8) } (M.write m ⟨5, (x : Int), o2, o3, o4, o5, o6, o7, o8, o9, kk⟩).2 := by
            rw [HRES.out]
            exact Left.res1 HLT.out HXG.out HM9.out (Ex.trans (Ex.of_below HE.out.b) HX9.out) (Nat.le_of_lt HR2.out) rfl 0 0 (.slice none 0 0) (.slice none 0 0)
          unfold MutPost
          exact ⟨_, HF1, HF2⟩
    · by_cases hk6 : o0 = 6
      · subst hk6
        have dk5 : decide ((6 : Int) = 5) = false := by decide
        have ek5 : ((6 : Int) == 5) = false := by decide
        have dk6 : decide ((6 : Int) = 6) = true := by decide
        have ek6 : ((6 : Int) == 6) = true := by decide
        have dk7 : decide ((6 : Int) = 7) = false := by decide
        have ek7 : ((6 : Int) == 7) = false := by decide
        have dk8 : decide ((6 : Int) = 8) = false := by decide
        have ek8 : ((6 : Int) == 8) = false := by decide
        by_cases hf1 : 0 ≤ f1
        · have d1 : decide (0 ≤ f1) = true := by simp [hf1]
          have HRES : Hid (M.write m ⟨6, (x : Int), o2, o3, o4, o5, o6, o7, o8, o9, kk⟩ = (M.ok, { m with dr := m.dr.set x (M.without (m.dr.getD x []) o4 []) })) := by
            have h := M.write_ok (m := m) (o := ⟨6, (x : Int), o2, o3, o4, o5, o6, o7, o8, o9, kk⟩) (by rw [HWB.out]; simp [M.wb, hs, hf1])
            unfold Hid
            rw [h]
            simp [M.wnew]
          rw [HDD.out] at HRES
          clear HWB
          go_wp2_with fail
          refine Two.Ph.wp_region_mix3 Two.Ph.eq_grow (ex_grow' (fun k => k = X.bD)) (fun _ _ h => h ▸ Ex.refl _ _) [9, 11] [(0, 0), (1, 0), (2, 0), (3, 0), (4, 0), (5, 0), (6, 2), (7, 2), (8, 2), (9, 1), (10, 0), (11, 1)] (by kernel_rfl) (by kernel_rfl) ?_
          have hb7 := Lib.hid (below_next hb6.out (Below.drew (Below.refl _ _)))
          generalize w6.drew = w7 at *
          clear hb6
          have c7 : ∀ z : LaterR (Ex (fun k => k = X.bD)) w7, z.1.cell? ⟨B, 7, none⟩ = some (slv X.bD n) := fun z => (ex_cell z.2 (Nat.lt_of_lt_of_le HE.out.m.b.lt hb7.out.size) (fun e => HNE.out.1 e.symm)).trans (HE.out.m.b.below hb7.out).cells.c7
          have p1 : ∀ z : LaterR (Ex (fun k => k = X.bD)) w7, z.1.cell? ⟨Qo, 1, none⟩ = some (.int .i64 (x : Int)) := fun z => (ex_cell z.2 (Nat.lt_of_lt_of_le HE.out.lo hb7.out.size) (fun e => HNE.out.2 e.symm)).trans (HE.out.at hb7.out).2.1
          obtain ⟨-, -, -, -, p4, p5, p6, -, -, -, -⟩ := HE.out.at hb7.out
          simp only [] at p4 p5 p6
          have HL := Lib.hid (mwithout_any (.slice av N cv) D o4 [] w7 (HVD.out w7 hb7.out) HDK.out)
          repeat ((first | refine Two.Ph.mix3_soft rfl (fun K hK => ?_) | refine Two.Ph.mix3_soon rfl (fun K hK => ?_)); go_simp; (first | (refine hK _ ?_; clear hK K) | (apply Exists.intro; refine ⟨fun z => ?_, hK _ ?_⟩; (first | done); clear hK K)))
          clear c7 p1 p4 p5 p6
          refine Two.Ph.mix3_loud rfl (fun K hK => ?_)
          go_simp
          refine ⟨Ex.refl _ _, HL.out.mono ?_⟩
          rintro e w8 ⟨v8, rfl, hown, hx8⟩
          refine ⟨_, rfl, Ex.of_below hx8, hK _ _ ?_⟩
          clear hK K HL
          obtain ⟨b8, N8, c8, rfl⟩ : ∃ a N c, v8 = .slice a N c := by
            obtain ⟨a, c, e, -⟩ := (Eo.es hown).shape
            exact ⟨a, _, c, e⟩
          have hb8 := Lib.hid (below_next hb7.out hx8)
          have HM8 := Lib.hid (HM.out.below hb8.out)
          have HN8 : Hid (Fz (fun k => G k ∨ k = R) w8 (fun W => Es W (.slice b8 N8 c8) (M.without (D) o4 []))) := Eo.fz hown (fun k hk => (HM.out.below hb7.out).lt k hk)
          obtain ⟨⟨q8, hq8⟩, hf8⟩ := own_go1 HM8.out.b.oD HXn.out
          clear hown hx8 hb7
          repeat ((first | refine Two.Ph.mix3_soft rfl (fun K hK => ?_) | refine Two.Ph.mix3_soon rfl (fun K hK => ?_)); go_simp; (first | (refine hK _ ?_; clear hK K) | (apply Exists.intro; refine ⟨fun z => ?_, hK _ ?_⟩; (first | done); clear hK K)))
          refine Two.Ph.mix3_loud rfl (fun K hK => ?_)
          go_simp
          refine ⟨Ex.setCell (G := fun k => k = X.bD) _ _ _ rfl _, hK _ _ ?_⟩
          clear hK K
          refine Two.Ph.mix3_done fun w9 h9 => ?_
          subst h9
          have HM9 := Lib.hid (HM8.out.setD x (.slice b8 N8 c8) (M.without (D) o4 []) HN8.out)
          have HX9 : Hid (Ex (X.foot B) w2 (w8.setCell ⟨X.bD, x, none⟩ (.slice b8 N8 c8))) := (Ex.of_below hb8.out).trans (Ex.setCell w8 X.bD x (by unfold Mv.foot; simp) _)
          clear HM8 HN8 hq8 hf8 hb8
          obtain ⟨w9, hw9⟩ : ∃ w9, w8.setCell ⟨X.bD, x, none⟩ (.slice b8 N8 c8) = w9 := ⟨_, rfl⟩
          rw [hw9] at HM9 HX9 ⊢
          clear hw9
          have hrb := HRb.out w9 HX9.out
          obtain ⟨⟨v0, z0⟩, ⟨v1, z1⟩, ⟨v2, z2⟩, ⟨v3, z3⟩, ⟨v4, z4⟩, ⟨v5, z5⟩, ⟨v6, z6⟩, ⟨v7, z7⟩⟩ := hrb.olds
          have y0 := hrb.go 0
          have y1 := hrb.go 1
          have y2 := hrb.go 2
          have y3 := hrb.go 3
          have y4 := hrb.go 4
          have y5 := hrb.go 5
          have y6 := hrb.go 6
          have y7 := hrb.go 7
          clear hrb
          go_wp2_with fail
          refine bodyPost_ret (res_results rfl _ _ R 0 0 (.slice none 0 0) (.slice none 0 0) rfl ((HRb.out w9 HX9.out).put 0 0 (.slice none 0 0) (.slice none 0 0))) rfl ?_
          have HF1 : Ending.returned (resv 0 0 (.slice none 0 0) (.slice none 0 0)) = Ending.returned (resv (M.write m ⟨6, (x : Int), o2, o3, o4, o5, o6, o7, o8, o9, kk⟩).1.e (M.write m ⟨6, (x : Int), o2, o3, o4, o5, o6, o7, o8, o9, kk⟩).1.n (.slice none 0 0) (.slice none 0 0)) := by rw [HRES.out] <;> rfl
          have HF2 : Left G w (rbw w9 R 0 0 (.slice none 0 0) (.slice none 0 0)) B n vn vu vq vg X { X with ds := X.ds.set x (.slice b8 N8 c8) } (M.write m ⟨6, (x : Int), o2, o3, o4, o5, o6, o7, o8, o9, kk⟩).2 := by
            rw [HRES.out]
            exact Left.res1 HLT.out HXG.out HM9.out (Ex.trans (Ex.of_below HE.out.b) HX9.out) (Nat.le_of_lt HR2.out) rfl 0 0 (.slice none 0 0) (.slice none 0 0)
          unfold MutPost
          exact ⟨_, HF1, HF2⟩
        · have d1 : decide (0 ≤ f1) = false := by simp [hf1]
          have HRES : Hid (M.write m ⟨6, (x : Int), o2, o3, o4, o5, o6, o7, o8, o9, kk⟩ = (M.bad 32, m)) := M.write_bad (by rw [HWB.out]; simp [M.wb, hs, hf1]) (by decide)
          have st := Lib.hid (not_any 32 w6)
          go_wp2_with fail
          refine st.out.mono ?_
          rintro e wn ⟨rfl, hx⟩
          have hbn := Lib.hid (below_next hb6.out hx)
          have HMn := Lib.hid (HM.out.below hbn.out)
          have HXn : Hid (Ex (X.foot B) w2 wn) := Ex.of_below hbn.out
          clear st hx hb6 hbn
          have hrb := HRb.out wn HXn.out
          obtain ⟨⟨v0, z0⟩, ⟨v1, z1⟩, ⟨v2, z2⟩, ⟨v3, z3⟩, ⟨v4, z4⟩, ⟨v5, z5⟩, ⟨v6, z6⟩, ⟨v7, z7⟩⟩ := hrb.olds
          have y0 := hrb.go 0
          have y1 := hrb.go 1
          have y2 := hrb.go 2
          have y3 := hrb.go 3
          have y4 := hrb.go 4
          have y5 := hrb.go 5
          have y6 := hrb.go 6
          have y7 := hrb.go 7
          clear hrb
          go_wp2_with fail
          refine bodyPost_ret (res_results rfl _ _ R 32 0 (.slice none 0 0) (.slice none 0 0) rfl ((HRb.out wn HXn.out).put 32 0 (.slice none 0 0) (.slice none 0 0))) rfl ?_
          have HF1 : Ending.returned (resv 32 0 (.slice none 0 0) (.slice none 0 0)) = Ending.returned (resv (M.write m ⟨6, (x : Int), o2, o3, o4, o5, o6, o7, o8, o9, kk⟩).1.e (M.write m ⟨6, (x : Int), o2, o3, o4, o5, o6, o7, o8, o9, kk⟩).1.n (.slice none 0 0) (.slice none 0 0)) := by rw [HRES.out] <;> rfl
          have HF2 : Left G w (rbw wn R 32 0 (.slice none 0 0) (.slice none 0 0)) B n vn vu vq vg X X (M.write m ⟨6, (x : Int), o2, o3, o4, o5, o6, o7, o8, o9, kk⟩).2 := by
            rw [HRES.out]
            exact Left.res1 HLT.out HXG.out HMn.out (Ex.trans (Ex.of_below HE.out.b) HXn.out) (Nat.le_of_lt HR2.out) rfl 32 0 (.slice none 0 0) (.slice none 0 0)
          unfold MutPost
          exact ⟨_, HF1, HF2⟩
      · by_cases hk7 : o0 = 7
        · subst hk7
          have dk5 : decide ((7 : Int) = 5) = false := by decide
          have ek5 : ((7 : Int) == 5) = false := by decide
          have dk6 : decide ((7 : Int) = 6) = false := by decide
          have ek6 : ((7 : Int) == 6) = false := by decide
          have dk7 : decide ((7 : Int) = 7) = true := by decide
          have ek7 : ((7 : Int) == 7) = true := by decide
          have dk8 : decide ((7 : Int) = 8) = false := by decide
          have ek8 : ((7 : Int) == 8) = false := by decide
          cases b10 with
          | false =>
            have HRES : Hid (M.write m ⟨7, (x : Int), o2, o3, o4, o5, o6, o7, o8, o9, kk⟩ = (M.bad 34, m)) := M.write_bad (by rw [HWB.out]; simp [M.wb, hs]) (by decide)
            have st := Lib.hid (not_any 34 w6)
            go_wp2_with fail
            refine st.out.mono ?_
            rintro e wn ⟨rfl, hx⟩
            have hbn := Lib.hid (below_next hb6.out hx)
            have HMn := Lib.hid (HM.out.below hbn.out)
            have HXn : Hid (Ex (X.foot B) w2 wn) := Ex.of_below hbn.out
            clear st hx hb6 hbn
            have hrb := HRb.out wn HXn.out
            obtain ⟨⟨v0, z0⟩, ⟨v1, z1⟩, ⟨v2, z2⟩, ⟨v3, z3⟩, ⟨v4, z4⟩, ⟨v5, z5⟩, ⟨v6, z6⟩, ⟨v7, z7⟩⟩ := hrb.olds
            have y0 := hrb.go 0
            have y1 := hrb.go 1
            have y2 := hrb.go 2
            have y3 := hrb.go 3
            have y4 := hrb.go 4
            have y5 := hrb.go 5
            have y6 := hrb.go 6
            have y7 := hrb.go 7
            clear hrb
            go_wp2_with fail
            refine bodyPost_ret (res_results rfl _ _ R 34 0 (.slice none 0 0) (.slice none 0 0) rfl ((HRb.out wn HXn.out).put 34 0 (.slice none 0 0) (.slice none 0 0))) rfl ?_
            have HF1 : Ending.returned (resv 34 0 (.slice none 0 0) (.slice none 0 0)) = Ending.returned (resv (M.write m ⟨7, (x : Int), o2, o3, o4, o5, o6, o7, o8, o9, kk⟩).1.e (M.write m ⟨7, (x : Int), o2, o3, o4, o5, o6, o7, o8, o9, kk⟩).1.n (.slice none 0 0) (.slice none 0 0)) := by rw [HRES.out] <;> rfl
            have HF2 : Left G w (rbw wn R 34 0 (.slice none 0 0) (.slice none 0 0)) B n vn vu vq vg X X (M.write m ⟨7, (x : Int), o2, o3, o4, o5, o6, o7, o8, o9, kk⟩).2 := by
              rw [HRES.out]
              exact Left.res1 HLT.out HXG.out HMn.out (Ex.trans (Ex.of_below HE.out.b) HXn.out) (Nat.le_of_lt HR2.out) rfl 34 0 (.slice none 0 0) (.slice none 0 0)
            unfold MutPost
            exact ⟨_, HF1, HF2⟩
          | true =>
            by_cases hlen : 400 < o6.length
            · have hlenI : (400 : Int) < (o6.length : Int) := by omega
              have d2 : decide ((400 : Int) < (o6.length : Int)) = true := by simp; omega
              have HRES : Hid (M.write m ⟨7, (x : Int), o2, o3, o4, o5, o6, o7, o8, o9, kk⟩ = (M.bad 34, m)) := M.write_bad (by rw [HWB.out]; simp [M.wb, hs, hlen]) (by decide)
              have st := Lib.hid (not_any 34 w6)
              go_wp2_with fail
              refine st.out.mono ?_
              rintro e wn ⟨rfl, hx⟩
              have hbn := Lib.hid (below_next hb6.out hx)
              have HMn := Lib.hid (HM.out.below hbn.out)
              have HXn : Hid (Ex (X.foot B) w2 wn) := Ex.of_below hbn.out
              clear st hx hb6 hbn
              have hrb := HRb.out wn HXn.out
              obtain ⟨⟨v0, z0⟩, ⟨v1, z1⟩, ⟨v2, z2⟩, ⟨v3, z3⟩, ⟨v4, z4⟩, ⟨v5, z5⟩, ⟨v6, z6⟩, ⟨v7, z7⟩⟩ := hrb.olds
              have y0 := hrb.go 0
              have y1 := hrb.go 1
              have y2 := hrb.go 2
              have y3 := hrb.go 3
              have y4 := hrb.go 4
              have y5 := hrb.go 5
              have y6 := hrb.go 6
              have y7 := hrb.go 7
              clear hrb
              go_wp2_with fail
              refine bodyPost_ret (res_results rfl _ _ R 34 0 (.slice none 0 0) (.slice none 0 0) rfl ((HRb.out wn HXn.out).put 34 0 (.slice none 0 0) (.slice none 0 0))) rfl ?_
              have HF1 : Ending.returned (resv 34 0 (.slice none 0 0) (.slice none 0 0)) = Ending.returned (resv (M.write m ⟨7, (x : Int), o2, o3, o4, o5, o6, o7, o8, o9, kk⟩).1.e (M.write m ⟨7, (x : Int), o2, o3, o4, o5, o6, o7, o8, o9, kk⟩).1.n (.slice none 0 0) (.slice none 0 0)) := by rw [HRES.out] <;> rfl
              have HF2 : Left G w (rbw wn R 34 0 (.slice none 0 0) (.slice none 0 0)) B n vn vu vq vg X X (M.write m ⟨7, (x : Int), o2, o3, o4, o5, o6, o7, o8, o9, kk⟩).2 := by
                rw [HRES.out]
                exact Left.res1 HLT.out HXG.out HMn.out (Ex.trans (Ex.of_below HE.out.b) HXn.out) (Nat.le_of_lt HR2.out) rfl 34 0 (.slice none 0 0) (.slice none 0 0)
              unfold MutPost
              exact ⟨_, HF1, HF2⟩
            · have hlenI : ¬ ((400 : Int) < (o6.length : Int)) := by omega
              have d2 : decide ((400 : Int) < (o6.length : Int)) = false := by simp; omega
              by_cases hf1 : 0 ≤ f1
              · have d1 : decide (0 ≤ f1) = true := by simp [hf1]
                have HRES : Hid (M.write m ⟨7, (x : Int), o2, o3, o4, o5, o6, o7, o8, o9, kk⟩ = (M.ok, { m with dr := m.dr.set x (M.with_ (m.dr.getD x []) (o4, o5, o6)) })) := by
                  have h := M.write_ok (m := m) (o := ⟨7, (x : Int), o2, o3, o4, o5, o6, o7, o8, o9, kk⟩) (by rw [HWB.out]; simp [M.wb, hs, hf1, hlen])
                  unfold Hid
                  rw [h]
                  simp [M.wnew]
                rw [HDD.out] at HRES
                clear HWB
                go_wp2_with fail
                refine Two.Ph.wp_region_mix3 Two.Ph.eq_grow (ex_grow' (fun k => k = X.bD)) (fun _ _ h => h ▸ Ex.refl _ _) [14, 16] [(0, 0), (1, 0), (2, 0), (3, 0), (4, 0), (5, 0), (6, 2), (7, 2), (8, 2), (9, 2), (10, 2), (11, 2), (12, 2), (13, 2), (14, 1), (15, 0), (16, 1)] (by kernel_rfl) (by kernel_rfl) ?_
                have hb7 := Lib.hid (below_next hb6.out (Below.drew (Below.refl _ _)))
                generalize w6.drew = w7 at *
                clear hb6
                have c7 : ∀ z : LaterR (Ex (fun k => k = X.bD)) w7, z.1.cell? ⟨B, 7, none⟩ = some (slv X.bD n) := fun z => (ex_cell z.2 (Nat.lt_of_lt_of_le HE.out.m.b.lt hb7.out.size) (fun e => HNE.out.1 e.symm)).trans (HE.out.m.b.below hb7.out).cells.c7
                have p1 : ∀ z : LaterR (Ex (fun k => k = X.bD)) w7, z.1.cell? ⟨Qo, 1, none⟩ = some (.int .i64 (x : Int)) := fun z => (ex_cell z.2 (Nat.lt_of_lt_of_le HE.out.lo hb7.out.size) (fun e => HNE.out.2 e.symm)).trans (HE.out.at hb7.out).2.1
                obtain ⟨-, -, -, -, p4, p5, p6, -, -, -, -⟩ := HE.out.at hb7.out
                simp only [] at p4 p5 p6
                have HL := Lib.hid (mwith_any (.slice av N cv) D o4 o5 o6 w7 (HVD.out w7 hb7.out) HDK.out)
                repeat ((first | refine Two.Ph.mix3_soft rfl (fun K hK => ?_) | refine Two.Ph.mix3_soon rfl (fun K hK => ?_)); go_simp; (first | (refine hK _ ?_; clear hK K) | (apply Exists.intro; refine ⟨fun z => ?_, hK _ ?_⟩; (first | done); clear hK K)))
                clear c7 p1 p4 p5 p6
                refine Two.Ph.mix3_loud rfl (fun K hK => ?_)
                go_simp
                refine ⟨Ex.refl _ _, HL.out.mono ?_⟩
                rintro e w8 ⟨v8, rfl, hown, hx8⟩
                refine ⟨_, rfl, Ex.of_below hx8, hK _ _ ?_⟩
                clear hK K HL
                obtain ⟨b8, N8, c8, rfl⟩ : ∃ a N c, v8 = .slice a N c := by
                  obtain ⟨a, c, e, -⟩ := (Eo.es hown).shape
                  exact ⟨a, _, c, e⟩
                have hb8 := Lib.hid (below_next hb7.out hx8)
                have HM8 := Lib.hid (HM.out.below hb8.out)
                have HN8 : Hid (Fz (fun k => G k ∨ k = R) w8 (fun W => Es W (.slice b8 N8 c8) (M.with_ (D) (o4, o5, o6)))) := Eo.fz hown (fun k hk => (HM.out.below hb7.out).lt k hk)
                obtain ⟨⟨q8, hq8⟩, hf8⟩ := own_go1 HM8.out.b.oD HXn.out
                clear hown hx8 hb7
                repeat ((first | refine Two.Ph.mix3_soft rfl (fun K hK => ?_) | refine Two.Ph.mix3_soon rfl (fun K hK => ?_)); go_simp; (first | (refine hK _ ?_; clear hK K) | (apply Exists.intro; refine ⟨fun z => ?_, hK _ ?_⟩; (first | done); clear hK K)))
                refine Two.Ph.mix3_loud rfl (fun K hK => ?_)
                go_simp
                refine ⟨Ex.setCell (G := fun k => k = X.bD) _ _ _ rfl _, hK _ _ ?_⟩
                clear hK K
                refine Two.Ph.mix3_done fun w9 h9 => ?_
                subst h9
                have HM9 := Lib.hid (HM8.out.setD x (.slice b8 N8 c8) (M.with_ (D) (o4, o5, o6)) HN8.out)
                have HX9 : Hid (Ex (X.foot B) w2 (w8.setCell ⟨X.bD, x, none⟩ (.slice b8 N8 c8))) := (Ex.of_below hb8.out).trans (Ex.setCell w8 X.bD x (by unfold Mv.foot; simp) _)
                clear HM8 HN8 hq8 hf8 hb8
                obtain ⟨w9, hw9⟩ : ∃ w9, w8.setCell ⟨X.bD, x, none⟩ (.slice b8 N8 c8) = w9 := ⟨_, rfl⟩
                rw [hw9] at HM9 HX9 ⊢
                clear hw9
                have hrb := HRb.out w9 HX9.out
                obtain ⟨⟨v0, z0⟩, ⟨v1, z1⟩, ⟨v2, z2⟩, ⟨v3, z3⟩, ⟨v4, z4⟩, ⟨v5, z5⟩, ⟨v6, z6⟩, ⟨v7, z7⟩⟩ := hrb.olds
                have y0 := hrb.go 0
                have y1 := hrb.go 1
                have y2 := hrb.go 2
                have y3 := hrb.go 3
                have y4 := hrb.go 4
                have y5 := hrb.go 5
                have y6 := hrb.go 6
                have y7 := hrb.go 7
                clear hrb
                go_wp2_with fail
                refine bodyPost_ret (res_results rfl _ _ R 0 0 (.slice none 0 0) (.slice none 0 0) rfl ((HRb.out w9 HX9.out).put 0 0 (.slice none 0 0) (.slice none 0 0))) rfl ?_
                have HF1 : Ending.returned (resv 0 0 (.slice none 0 0) (.slice none 0 0)) = Ending.returned (resv (M.write m ⟨7, (x : Int), o2, o3, o4, o5, o6, o7, o8, o9, kk⟩).1.e (M.write m ⟨7, (x : Int), o2, o3, o4, o5, o6, o7, o8, o9, kk⟩).1.n (.slice none 0 0) (.slice none 0 0)) := by rw [HRES.out] <;> rfl
                have HF2 : Left G w (rbw w9 R 0 0 (.slice none 0 0) (.slice none 0 0)) B n vn vu vq vg X { X with ds := X.ds.set x (.slice b8 N8 c8) } (M.write m ⟨7, (x : Int), o2, o3, o4, o5, o6, o7, o8, o9, kk⟩).2 := by
                  rw [HRES.out]
                  exact Left.res1 HLT.out HXG.out HM9.out (Ex.trans (Ex.of_below HE.out.b) HX9.out) (Nat.le_of_lt HR2.out) rfl 0 0 (.slice none 0 0) (.slice none 0 0)
                unfold MutPost
                exact ⟨_, HF1, HF2⟩
              · have d1 : decide (0 ≤ f1) = false := by simp [hf1]
                have HRES : Hid (M.write m ⟨7, (x : Int), o2, o3, o4, o5, o6, o7, o8, o9, kk⟩ = (M.bad 32, m)) := M.write_bad (by rw [HWB.out]; simp [M.wb, hs, hf1, hlen]) (by decide)
                have st := Lib.hid (not_any 32 w6)
                go_wp2_with fail
                refine st.out.mono ?_
                rintro e wn ⟨rfl, hx⟩
                have hbn := Lib.hid (below_next hb6.out hx)
                have HMn := Lib.hid (HM.out.below hbn.out)
                have HXn : Hid (Ex (X.foot B) w2 wn) := Ex.of_below hbn.out
                clear st hx hb6 hbn
                have hrb := HRb.out wn HXn.out
                obtain ⟨⟨v0, z0⟩, ⟨v1, z1⟩, ⟨v2, z2⟩, ⟨v3, z3⟩, ⟨v4, z4⟩, ⟨v5, z5⟩, ⟨v6, z6⟩, ⟨v7, z7⟩⟩ := hrb.olds
                have y0 := hrb.go 0
                have y1 := hrb.go 1
                have y2 := hrb.go 2
                have y3 := hrb.go 3
                have y4 := hrb.go 4
                have y5 := hrb.go 5
                have y6 := hrb.go 6
                have y7 := hrb.go 7
                clear hrb
                go_wp2_with fail
                refine bodyPost_ret (res_results rfl _ _ R 32 0 (.slice none 0 0) (.slice none 0 0) rfl ((HRb.out wn HXn.out).put 32 0 (.slice none 0 0) (.slice none 0 0))) rfl ?_
                have HF1 : Ending.returned (resv 32 0 (.slice none 0 0) (.slice none 0 0)) = Ending.returned (resv (M.write m ⟨7, (x : Int), o2, o3, o4, o5, o6, o7, o8, o9, kk⟩).1.e (M.write m ⟨7, (x : Int), o2, o3, o4, o5, o6, o7, o8, o9, kk⟩).1.n (.slice none 0 0) (.slice none 0 0)) := by rw [HRES.out] <;> rfl
                have HF2 : Left G w (rbw wn R 32 0 (.slice none 0 0) (.slice none 0 0)) B n vn vu vq vg X X (M.write m ⟨7, (x : Int), o2, o3, o4, o5, o6, o7, o8, o9, kk⟩).2 := by
                  rw [HRES.out]
                  exact Left.res1 HLT.out HXG.out HMn.out (Ex.trans (Ex.of_below HE.out.b) HXn.out) (Nat.le_of_lt HR2.out) rfl 32 0 (.slice none 0 0) (.slice none 0 0)
                unfold MutPost
                exact ⟨_, HF1, HF2⟩
        · by_cases hk8 : o0 = 8
          · subst hk8
            have dk5 : decide ((8 : Int) = 5) = false := by decide
            have ek5 : ((8 : Int) == 5) = false := by decide
            have dk6 : decide ((8 : Int) = 6) = false := by decide
            have ek6 : ((8 : Int) == 6) = false := by decide
            have dk7 : decide ((8 : Int) = 7) = false := by decide
            have ek7 : ((8 : Int) == 7) = false := by decide
            have dk8 : decide ((8 : Int) = 8) = true := by decide
            have ek8 : ((8 : Int) == 8) = true := by decide
            by_cases hf1 : 0 ≤ f1
            · have d1 : decide (0 ≤ f1) = true := by simp [hf1]
              cases b10 with
              | false =>
                have HRES : Hid (M.write m ⟨8, (x : Int), o2, o3, o4, o5, o6, o7, o8, o9, kk⟩ = (M.bad 33, m)) := M.write_bad (by rw [HWB.out]; simp [M.wb, hs, hf1]) (by decide)
                have st := Lib.hid (not_any 33 w6)
                go_wp2_with fail
                refine st.out.mono ?_
                rintro e wn ⟨rfl, hx⟩
                have hbn := Lib.hid (below_next hb6.out hx)
                have HMn := Lib.hid (HM.out.below hbn.out)
                have HXn : Hid (Ex (X.foot B) w2 wn) := Ex.of_below hbn.out
                clear st hx hb6 hbn
                have hrb := HRb.out wn HXn.out
                obtain ⟨⟨v0, z0⟩, ⟨v1, z1⟩, ⟨v2, z2⟩, ⟨v3, z3⟩, ⟨v4, z4⟩, ⟨v5, z5⟩, ⟨v6, z6⟩, ⟨v7, z7⟩⟩ := hrb.olds
                have y0 := hrb.go 0
                have y1 := hrb.go 1
                have y2 := hrb.go 2
                have y3 := hrb.go 3
                have y4 := hrb.go 4
                have y5 := hrb.go 5
                have y6 := hrb.go 6
                have y7 := hrb.go 7
                clear hrb
                go_wp2_with fail
                refine bodyPost_ret (res_results rfl _ _ R 33 0 (.slice none 0 0) (.slice none 0 0) rfl ((HRb.out wn HXn.out).put 33 0 (.slice none 0 0) (.slice none 0 0))) rfl ?_
                have HF1 : Ending.returned (resv 33 0 (.slice none 0 0) (.slice none 0 0)) = Ending.returned (resv (M.write m ⟨8, (x : Int), o2, o3, o4, o5, o6, o7, o8, o9, kk⟩).1.e (M.write m ⟨8, (x : Int), o2, o3, o4, o5, o6, o7, o8, o9, kk⟩).1.n (.slice none 0 0) (.slice none 0 0)) := by rw [HRES.out] <;> rfl
                have HF2 : Left G w (rbw wn R 33 0 (.slice none 0 0) (.slice none 0 0)) B n vn vu vq vg X X (M.write m ⟨8, (x : Int), o2, o3, o4, o5, o6, o7, o8, o9, kk⟩).2 := by
                  rw [HRES.out]
                  exact Left.res1 HLT.out HXG.out HMn.out (Ex.trans (Ex.of_below HE.out.b) HXn.out) (Nat.le_of_lt HR2.out) rfl 33 0 (.slice none 0 0) (.slice none 0 0)
                unfold MutPost
                exact ⟨_, HF1, HF2⟩
              | true =>
                have H8 := HF2.out w6 hb6.out
                go_wp2_with fail
                refine H8.mono ?_
                rintro e w6' ⟨rfl, rfl⟩
                clear H8
                by_cases hf2 : f2 < 0
                · have d3 : decide (f2 < 0) = true := by simp [hf2]
                  have HRES : Hid (M.write m ⟨8, (x : Int), o2, o3, o4, o5, o6, o7, o8, o9, kk⟩ = (M.bad 33, m)) := M.write_bad (by rw [HWB.out]; simp [M.wb, hs, hf1, hf2]) (by decide)
                  have st := Lib.hid (not_any 33 w6)
                  go_wp2_with fail
                  refine st.out.mono ?_
                  rintro e wn ⟨rfl, hx⟩
                  have hbn := Lib.hid (below_next hb6.out hx)
                  have HMn := Lib.hid (HM.out.below hbn.out)
                  have HXn : Hid (Ex (X.foot B) w2 wn) := Ex.of_below hbn.out
                  clear st hx hb6 hbn
                  have hrb := HRb.out wn HXn.out
                  obtain ⟨⟨v0, z0⟩, ⟨v1, z1⟩, ⟨v2, z2⟩, ⟨v3, z3⟩, ⟨v4, z4⟩, ⟨v5, z5⟩, ⟨v6, z6⟩, ⟨v7, z7⟩⟩ := hrb.olds
                  have y0 := hrb.go 0
                  have y1 := hrb.go 1
                  have y2 := hrb.go 2
                  have y3 := hrb.go 3
                  have y4 := hrb.go 4
                  have y5 := hrb.go 5
                  have y6 := hrb.go 6
                  have y7 := hrb.go 7
                  clear hrb
                  go_wp2_with fail
                  refine bodyPost_ret (res_results rfl _ _ R 33 0 (.slice none 0 0) (.slice none 0 0) rfl ((HRb.out wn HXn.out).put 33 0 (.slice none 0 0) (.slice none 0 0))) rfl ?_
                  have HF1 : Ending.returned (resv 33 0 (.slice none 0 0) (.slice none 0 0)) = Ending.returned (resv (M.write m ⟨8, (x : Int), o2, o3, o4, o5, o6, o7, o8, o9, kk⟩).1.e (M.write m ⟨8, (x : Int), o2, o3, o4, o5, o6, o7, o8, o9, kk⟩).1.n (.slice none 0 0) (.slice none 0 0)) := by rw [HRES.out] <;> rfl
                  have HF2 : Left G w (rbw wn R 33 0 (.slice none 0 0) (.slice none 0 0)) B n vn vu vq vg X X (M.write m ⟨8, (x : Int), o2, o3, o4, o5, o6, o7, o8, o9, kk⟩).2 := by
                    rw [HRES.out]
                    exact Left.res1 HLT.out HXG.out HMn.out (Ex.trans (Ex.of_below HE.out.b) HXn.out) (Nat.le_of_lt HR2.out) rfl 33 0 (.slice none 0 0) (.slice none 0 0)
                  unfold MutPost
                  exact ⟨_, HF1, HF2⟩
                · have d3 : decide (f2 < 0) = false := by simp [hf2]
                  have HRES : Hid (M.write m ⟨8, (x : Int), o2, o3, o4, o5, o6, o7, o8, o9, kk⟩ = (M.ok, { m with dr := m.dr.set x (M.without (m.dr.getD x []) o4 o5) })) := by
                    have h := M.write_ok (m := m) (o := ⟨8, (x : Int), o2, o3, o4, o5, o6, o7, o8, o9, kk⟩) (by rw [HWB.out]; simp [M.wb, hs, hf1, hf2])
                    unfold Hid
                    rw [h]
                    simp [M.wnew]
                  rw [HDD.out] at HRES
                  clear HWB
                  go_wp2_with fail
                  refine Two.Ph.wp_region_mix3 Two.Ph.eq_grow (ex_grow' (fun k => k = X.bD)) (fun _ _ h => h ▸ Ex.refl _ _) [11, 13] [(0, 0), (1, 0), (2, 0), (3, 0), (4, 0), (5, 0), (6, 2), (7, 2), (8, 2), (9, 2), (10, 2), (11, 1), (12, 0), (13, 1)] (by kernel_rfl) (by kernel_rfl) ?_
                  have hb7 := Lib.hid (below_next hb6.out (Below.drew (Below.refl _ _)))
                  generalize w6.drew = w7 at *
                  clear hb6
                  have c7 : ∀ z : LaterR (Ex (fun k => k = X.bD)) w7, z.1.cell? ⟨B, 7, none⟩ = some (slv X.bD n) := fun z => (ex_cell z.2 (Nat.lt_of_lt_of_le HE.out.m.b.lt hb7.out.size) (fun e => HNE.out.1 e.symm)).trans (HE.out.m.b.below hb7.out).cells.c7
                  have p1 : ∀ z : LaterR (Ex (fun k => k = X.bD)) w7, z.1.cell? ⟨Qo, 1, none⟩ = some (.int .i64 (x : Int)) := fun z => (ex_cell z.2 (Nat.lt_of_lt_of_le HE.out.lo hb7.out.size) (fun e => HNE.out.2 e.symm)).trans (HE.out.at hb7.out).2.1
                  obtain ⟨-, -, -, -, p4, p5, p6, -, -, -, -⟩ := HE.out.at hb7.out
                  simp only [] at p4 p5 p6
                  have HL := Lib.hid (mwithout_any (.slice av N cv) D o4 o5 w7 (HVD.out w7 hb7.out) HDK.out)
                  repeat ((first | refine Two.Ph.mix3_soft rfl (fun K hK => ?_) | refine Two.Ph.mix3_soon rfl (fun K hK => ?_)); go_simp; (first | (refine hK _ ?_; clear hK K) | (apply Exists.intro; refine ⟨fun z => ?_, hK _ ?_⟩; (first | done); clear hK K)))
                  clear c7 p1 p4 p5 p6
                  refine Two.Ph.mix3_loud rfl (fun K hK => ?_)
                  go_simp
                  refine ⟨Ex.refl _ _, HL.out.mono ?_⟩
                  rintro e w8 ⟨v8, rfl, hown, hx8⟩
                  refine ⟨_, rfl, Ex.of_below hx8, hK _ _ ?_⟩
                  clear hK K HL
                  obtain ⟨b8, N8, c8, rfl⟩ : ∃ a N c, v8 = .slice a N c := by
                    obtain ⟨a, c, e, -⟩ := (Eo.es hown).shape
                    exact ⟨a, _, c, e⟩
                  have hb8 := Lib.hid (below_next hb7.out hx8)
                  have HM8 := Lib.hid (HM.out.below hb8.out)
                  have HN8 : Hid (Fz (fun k => G k ∨ k = R) w8 (fun W => Es W (.slice b8 N8 c8) (M.without (D) o4 o5))) := Eo.fz hown (fun k hk => (HM.out.below hb7.out).lt k hk)
                  obtain ⟨⟨q8, hq8⟩, hf8⟩ := own_go1 HM8.out.b.oD HXn.out
                  clear hown hx8 hb7
                  repeat ((first | refine Two.Ph.mix3_soft rfl (fun K hK => ?_) | refine Two.Ph.mix3_soon rfl (fun K hK => ?_)); go_simp; (first | (refine hK _ ?_; clear hK K) | (apply Exists.intro; refine ⟨fun z => ?_, hK _ ?_⟩; (first | done); clear hK K)))
                  refine Two.Ph.mix3_loud rfl (fun K hK => ?_)
                  go_simp
                  refine ⟨Ex.setCell (G := fun k => k = X.bD) _ _ _ rfl _, hK _ _ ?_⟩
                  clear hK K
                  refine Two.Ph.mix3_done fun w9 h9 => ?_
                  subst h9
                  have HM9 := Lib.hid (HM8.out.setD x (.slice b8 N8 c8) (M.without (D) o4 o5) HN8.out)
                  have HX9 : Hid (Ex (X.foot B) w2 (w8.setCell ⟨X.bD, x, none⟩ (.slice b8 N8 c8))) := (Ex.of_below hb8.out).trans (Ex.setCell w8 X.bD x (by unfold Mv.foot; simp) _)
                  clear HM8 HN8 hq8 hf8 hb8
                  obtain ⟨w9, hw9⟩ : ∃ w9, w8.setCell ⟨X.bD, x, none⟩ (.slice b8 N8 c8) = w9 := ⟨_, rfl⟩
                  rw [hw9] at HM9 HX9 ⊢
                  clear hw9
                  have hrb := HRb.out w9 HX9.out
                  obtain ⟨⟨v0, z0⟩, ⟨v1, z1⟩, ⟨v2, z2⟩, ⟨v3, z3⟩, ⟨v4, z4⟩, ⟨v5, z5⟩, ⟨v6, z6⟩, ⟨v7, z7⟩⟩ := hrb.olds
                  have y0 := hrb.go 0
                  have y1 := hrb.go 1
                  have y2 := hrb.go 2
                  have y3 := hrb.go 3
                  have y4 := hrb.go 4
                  have y5 := hrb.go 5
                  have y6 := hrb.go 6
                  have y7 := hrb.go 7
                  clear hrb
                  go_wp2_with fail
                  refine bodyPost_ret (res_results rfl _ _ R 0 0 (.slice none 0 0) (.slice none 0 0) rfl ((HRb.out w9 HX9.out).put 0 0 (.slice none 0 0) (.slice none 0 0))) rfl ?_
                  have HF1 : Ending.returned (resv 0 0 (.slice none 0 0) (.slice none 0 0)) = Ending.returned (resv (M.write m ⟨8, (x : Int), o2, o3, o4, o5, o6, o7, o8, o9, kk⟩).1.e (M.write m ⟨8, (x : Int), o2, o3, o4, o5, o6, o7, o8, o9, kk⟩).1.n (.slice none 0 0) (.slice none 0 0)) := by rw [HRES.out] <;> rfl
                  have HF2 : Left G w (rbw w9 R 0 0 (.slice none 0 0) (.slice none 0 0)) B n vn vu vq vg X { X with ds := X.ds.set x (.slice b8 N8 c8) } (M.write m ⟨8, (x : Int), o2, o3, o4, o5, o6, o7, o8, o9, kk⟩).2 := by
                    rw [HRES.out]
                    exact Left.res1 HLT.out HXG.out HM9.out (Ex.trans (Ex.of_below HE.out.b) HX9.out) (Nat.le_of_lt HR2.out) rfl 0 0 (.slice none 0 0) (.slice none 0 0)
                  unfold MutPost
                  exact ⟨_, HF1, HF2⟩
            · have d1 : decide (0 ≤ f1) = false := by simp [hf1]
              have HRES : Hid (M.write m ⟨8, (x : Int), o2, o3, o4, o5, o6, o7, o8, o9, kk⟩ = (M.bad 32, m)) := M.write_bad (by rw [HWB.out]; simp [M.wb, hs, hf1]) (by decide)
              have st := Lib.hid (not_any 32 w6)
              go_wp2_with fail
              refine st.out.mono ?_
              rintro e wn ⟨rfl, hx⟩
              have hbn := Lib.hid (below_next hb6.out hx)
              have HMn := Lib.hid (HM.out.below hbn.out)
              have HXn : Hid (Ex (X.foot B) w2 wn) := Ex.of_below hbn.out
              clear st hx hb6 hbn
              have hrb := HRb.out wn HXn.out
              obtain ⟨⟨v0, z0⟩, ⟨v1, z1⟩, ⟨v2, z2⟩, ⟨v3, z3⟩, ⟨v4, z4⟩, ⟨v5, z5⟩, ⟨v6, z6⟩, ⟨v7, z7⟩⟩ := hrb.olds
              have y0 := hrb.go 0
              have y1 := hrb.go 1
              have y2 := hrb.go 2
              have y3 := hrb.go 3
              have y4 := hrb.go 4
              have y5 := hrb.go 5
              have y6 := hrb.go 6
              have y7 := hrb.go 7
              clear hrb
              go_wp2_with fail
              refine bodyPost_ret (res_results rfl _ _ R 32 0 (.slice none 0 0) (.slice none 0 0) rfl ((HRb.out wn HXn.out).put 32 0 (.slice none 0 0) (.slice none 0 0))) rfl ?_
              have HF1 : Ending.returned (resv 32 0 (.slice none 0 0) (.slice none 0 0)) = Ending.returned (resv (M.write m ⟨8, (x : Int), o2, o3, o4, o5, o6, o7, o8, o9, kk⟩).1.e (M.write m ⟨8, (x : Int), o2, o3, o4, o5, o6, o7, o8, o9, kk⟩).1.n (.slice none 0 0) (.slice none 0 0)) := by rw [HRES.out] <;> rfl
              have HF2 : Left G w (rbw wn R 32 0 (.slice none 0 0) (.slice none 0 0)) B n vn vu vq vg X X (M.write m ⟨8, (x : Int), o2, o3, o4, o5, o6, o7, o8, o9, kk⟩).2 := by
                rw [HRES.out]
                exact Left.res1 HLT.out HXG.out HMn.out (Ex.trans (Ex.of_below HE.out.b) HXn.out) (Nat.le_of_lt HR2.out) rfl 32 0 (.slice none 0 0) (.slice none 0 0)
              unfold MutPost
              exact ⟨_, HF1, HF2⟩
          · have d5 : decide (o0 = 5) = false := by simp [hk5]
            have d6 : decide (o0 = 6) = false := by simp [hk6]
            have d7 : decide (o0 = 7) = false := by simp [hk7]
            have d8 : decide (o0 = 8) = false := by simp [hk8]
            have e5 : (o0 == 5) = false := by simp [hk5]
            have e6 : (o0 == 6) = false := by simp [hk6]
            have e7 : (o0 == 7) = false := by simp [hk7]
            have e8 : (o0 == 8) = false := by simp [hk8]
            by_cases hf1 : 0 ≤ f1
            · have d1 : decide (0 ≤ f1) = true := by simp [hf1]
              have HRES : Hid (M.write m ⟨o0, (x : Int), o2, o3, o4, o5, o6, o7, o8, o9, kk⟩ = (M.ok, { m with dr := m.dr.set x (M.without (m.dr.getD x []) o4 o5) })) := by
                have h := M.write_ok (m := m) (o := ⟨o0, (x : Int), o2, o3, o4, o5, o6, o7, o8, o9, kk⟩) (by rw [HWB.out]; simp [M.wb, hs, hf1, hk5, hk6, hk7, hk8])
                unfold Hid
                rw [h]
                simp [M.wnew, hk5, hk6, hk7]
              rw [HDD.out] at HRES
              clear HWB
              go_wp2_with fail
              refine Two.Ph.wp_region_mix3 Two.Ph.eq_grow (ex_grow' (fun k => k = X.bD)) (fun _ _ h => h ▸ Ex.refl _ _) [11, 13] [(0, 0), (1, 0), (2, 0), (3, 0), (4, 0), (5, 0), (6, 2), (7, 2), (8, 2), (9, 2), (10, 2), (11, 1), (12, 0), (13, 1)] (by kernel_rfl) (by kernel_rfl) ?_
              have hb7 := Lib.hid (below_next hb6.out (Below.drew (Below.refl _ _)))
              generalize w6.drew = w7 at *
              clear hb6
              have c7 : ∀ z : LaterR (Ex (fun k => k = X.bD)) w7, z.1.cell? ⟨B, 7, none⟩ = some (slv X.bD n) := fun z => (ex_cell z.2 (Nat.lt_of_lt_of_le HE.out.m.b.lt hb7.out.size) (fun e => HNE.out.1 e.symm)).trans (HE.out.m.b.below hb7.out).cells.c7
              have p1 : ∀ z : LaterR (Ex (fun k => k = X.bD)) w7, z.1.cell? ⟨Qo, 1, none⟩ = some (.int .i64 (x : Int)) := fun z => (ex_cell z.2 (Nat.lt_of_lt_of_le HE.out.lo hb7.out.size) (fun e => HNE.out.2 e.symm)).trans (HE.out.at hb7.out).2.1
              obtain ⟨-, -, -, -, p4, p5, p6, -, -, -, -⟩ := HE.out.at hb7.out
              simp only [] at p4 p5 p6
              have HL := Lib.hid (mwithout_any (.slice av N cv) D o4 o5 w7 (HVD.out w7 hb7.out) HDK.out)
              repeat ((first | refine Two.Ph.mix3_soft rfl (fun K hK => ?_) | refine Two.Ph.mix3_soon rfl (fun K hK => ?_)); go_simp; (first | (refine hK _ ?_; clear hK K) | (apply Exists.intro; refine ⟨fun z => ?_, hK _ ?_⟩; (first | done); clear hK K)))
              clear c7 p1 p4 p5 p6
              refine Two.Ph.mix3_loud rfl (fun K hK => ?_)
              go_simp
              refine ⟨Ex.refl _ _, HL.out.mono ?_⟩
              rintro e w8 ⟨v8, rfl, hown, hx8⟩
              refine ⟨_, rfl, Ex.of_below hx8, hK _ _ ?_⟩
              clear hK K HL
              obtain ⟨b8, N8, c8, rfl⟩ : ∃ a N c, v8 = .slice a N c := by
                obtain ⟨a, c, e, -⟩ := (Eo.es hown).shape
                exact ⟨a, _, c, e⟩
              have hb8 := Lib.hid (below_next hb7.out hx8)
              have HM8 := Lib.hid (HM.out.below hb8.out)
              have HN8 : Hid (Fz (fun k => G k ∨ k = R) w8 (fun W => Es W (.slice b8 N8 c8) (M.without (D) o4 o5))) := Eo.fz hown (fun k hk => (HM.out.below hb7.out).lt k hk)
              obtain ⟨⟨q8, hq8⟩, hf8⟩ := own_go1 HM8.out.b.oD HXn.out
              clear hown hx8 hb7
              repeat ((first | refine Two.Ph.mix3_soft rfl (fun K hK => ?_) | refine Two.Ph.mix3_soon rfl (fun K hK => ?_)); go_simp; (first | (refine hK _ ?_; clear hK K) | (apply Exists.intro; refine ⟨fun z => ?_, hK _ ?_⟩; (first | done); clear hK K)))
              refine Two.Ph.mix3_loud rfl (fun K hK => ?_)
              go_simp
              refine ⟨Ex.setCell (G := fun k => k = X.bD) _ _ _ rfl _, hK _ _ ?_⟩
              clear hK K
              refine Two.Ph.mix3_done fun w9 h9 => ?_
              subst h9
              have HM9 := Lib.hid (HM8.out.setD x (.slice b8 N8 c8) (M.without (D) o4 o5) HN8.out)
              have HX9 : Hid (Ex (X.foot B) w2 (w8.setCell ⟨X.bD, x, none⟩ (.slice b8 N8 c8))) := (Ex.of_below hb8.out).trans (Ex.setCell w8 X.bD x (by unfold Mv.foot; simp) _)
              clear HM8 HN8 hq8 hf8 hb8
              obtain ⟨w9, hw9⟩ : ∃ w9, w8.setCell ⟨X.bD, x, none⟩ (.slice b8 N8 c8) = w9 := ⟨_, rfl⟩
              rw [hw9] at HM9 HX9 ⊢
              clear hw9
              have hrb := HRb.out w9 HX9.out
              obtain ⟨⟨v0, z0⟩, ⟨v1, z1⟩, ⟨v2, z2⟩, ⟨v3, z3⟩, ⟨v4, z4⟩, ⟨v5, z5⟩, ⟨v6, z6⟩, ⟨v7, z7⟩⟩ := hrb.olds
              have y0 := hrb.go 0
              have y1 := hrb.go 1
              have y2 := hrb.go 2
              have y3 := hrb.go 3
              have y4 := hrb.go 4
              have y5 := hrb.go 5
              have y6 := hrb.go 6
              have y7 := hrb.go 7
              clear hrb
              go_wp2_with fail
              refine bodyPost_ret (res_results rfl _ _ R 0 0 (.slice none 0 0) (.slice none 0 0) rfl ((HRb.out w9 HX9.out).put 0 0 (.slice none 0 0) (.slice none 0 0))) rfl ?_
              have HF1 : Ending.returned (resv 0 0 (.slice none 0 0) (.slice none 0 0)) = Ending.returned (resv (M.write m ⟨o0, (x : Int), o2, o3, o4, o5, o6, o7, o8, o9, kk⟩).1.e (M.write m ⟨o0, (x : Int), o2, o3, o4, o5, o6, o7, o8, o9, kk⟩).1.n (.slice none 0 0) (.slice none 0 0)) := by rw [HRES.out] <;> rfl
              have HF2 : Left G w (rbw w9 R 0 0 (.slice none 0 0) (.slice none 0 0)) B n vn vu vq vg X { X with ds := X.ds.set x (.slice b8 N8 c8) } (M.write m ⟨o0, (x : Int), o2, o3, o4, o5, o6, o7, o8, o9, kk⟩).2 := by
                rw [HRES.out]
                exact Left.res1 HLT.out HXG.out HM9.out (Ex.trans (Ex.of_below HE.out.b) HX9.out) (Nat.le_of_lt HR2.out) rfl 0 0 (.slice none 0 0) (.slice none 0 0)
              unfold MutPost
              exact ⟨_, HF1, HF2⟩
            · have d1 : decide (0 ≤ f1) = false := by simp [hf1]
              have HRES : Hid (M.write m ⟨o0, (x : Int), o2, o3, o4, o5, o6, o7, o8, o9, kk⟩ = (M.bad 32, m)) := M.write_bad (by rw [HWB.out]; simp [M.wb, hs, hf1, hk5, hk6, hk7, hk8]) (by decide)
              have st := Lib.hid (not_any 32 w6)
              go_wp2_with fail
              refine st.out.mono ?_
              rintro e wn ⟨rfl, hx⟩
              have hbn := Lib.hid (below_next hb6.out hx)
              have HMn := Lib.hid (HM.out.below hbn.out)
              have HXn : Hid (Ex (X.foot B) w2 wn) := Ex.of_below hbn.out
              clear st hx hb6 hbn
              have hrb := HRb.out wn HXn.out
              obtain ⟨⟨v0, z0⟩, ⟨v1, z1⟩, ⟨v2, z2⟩, ⟨v3, z3⟩, ⟨v4, z4⟩, ⟨v5, z5⟩, ⟨v6, z6⟩, ⟨v7, z7⟩⟩ := hrb.olds
              have y0 := hrb.go 0
              have y1 := hrb.go 1
              have y2 := hrb.go 2
              have y3 := hrb.go 3
              have y4 := hrb.go 4
              have y5 := hrb.go 5
              have y6 := hrb.go 6
              have y7 := hrb.go 7
              clear hrb
              go_wp2_with fail
              refine bodyPost_ret (res_results rfl _ _ R 32 0 (.slice none 0 0) (.slice none 0 0) rfl ((HRb.out wn HXn.out).put 32 0 (.slice none 0 0) (.slice none 0 0))) rfl ?_
              have HF1 : Ending.returned (resv 32 0 (.slice none 0 0) (.slice none 0 0)) = Ending.returned (resv (M.write m ⟨o0, (x : Int), o2, o3, o4, o5, o6, o7, o8, o9, kk⟩).1.e (M.write m ⟨o0, (x : Int), o2, o3, o4, o5, o6, o7, o8, o9, kk⟩).1.n (.slice none 0 0) (.slice none 0 0)) := by rw [HRES.out] <;> rfl
              have HF2 : Left G w (rbw wn R 32 0 (.slice none 0 0) (.slice none 0 0)) B n vn vu vq vg X X (M.write m ⟨o0, (x : Int), o2, o3, o4, o5, o6, o7, o8, o9, kk⟩).2 := by
                rw [HRES.out]
                exact Left.res1 HLT.out HXG.out HMn.out (Ex.trans (Ex.of_below HE.out.b) HXn.out) (Nat.le_of_lt HR2.out) rfl 32 0 (.slice none 0 0) (.slice none 0 0)
              unfold MutPost
              exact ⟨_, HF1, HF2⟩
  · have ee : (hx == o2) = false := by simp [hs]
    have en : (hx != o2) = true := by simp [hs]
    have ed : decide (hx = o2) = false := by simp [hs]
    have HRES : Hid (M.write m ⟨o0, (x : Int), o2, o3, o4, o5, o6, o7, o8, o9, kk⟩ = (M.bad 35, m)) := M.write_bad (by rw [HWB.out]; simp [M.wb, hs]) (by decide)
    have st := Lib.hid (not_any 35 w3)
    go_wp2_with fail
    refine st.out.mono ?_
    rintro e wn ⟨rfl, hx⟩
    have hbn := Lib.hid (below_next hb3.out hx)
    have HMn := Lib.hid (HM.out.below hbn.out)
    have HXn : Hid (Ex (X.foot B) w2 wn) := Ex.of_below hbn.out
    clear st hx hb3 hbn
    have hrb := HRb.out wn HXn.out
    obtain ⟨⟨v0, z0⟩, ⟨v1, z1⟩, ⟨v2, z2⟩, ⟨v3, z3⟩, ⟨v4, z4⟩, ⟨v5, z5⟩, ⟨v6, z6⟩, ⟨v7, z7⟩⟩ := hrb.olds
    have y0 := hrb.go 0
    have y1 := hrb.go 1
    have y2 := hrb.go 2
    have y3 := hrb.go 3
    have y4 := hrb.go 4
    have y5 := hrb.go 5
    have y6 := hrb.go 6
    have y7 := hrb.go 7
    clear hrb
    go_wp2_with fail
    refine bodyPost_ret (res_results rfl _ _ R 35 0 (.slice none 0 0) (.slice none 0 0) rfl ((HRb.out wn HXn.out).put 35 0 (.slice none 0 0) (.slice none 0 0))) rfl ?_
    have HF1 : Ending.returned (resv 35 0 (.slice none 0 0) (.slice none 0 0)) = Ending.returned (resv (M.write m ⟨o0, (x : Int), o2, o3, o4, o5, o6, o7, o8, o9, kk⟩).1.e (M.write m ⟨o0, (x : Int), o2, o3, o4, o5, o6, o7, o8, o9, kk⟩).1.n (.slice none 0 0) (.slice none 0 0)) := by rw [HRES.out] <;> rfl
    have HF2 : Left G w (rbw wn R 35 0 (.slice none 0 0) (.slice none 0 0)) B n vn vu vq vg X X (M.write m ⟨o0, (x : Int), o2, o3, o4, o5, o6, o7, o8, o9, kk⟩).2 := by
      rw [HRES.out]
      exact Left.res1 HLT.out HXG.out HMn.out (Ex.trans (Ex.of_below HE.out.b) HXn.out) (Nat.le_of_lt HR2.out) rfl 35 0 (.slice none 0 0) (.slice none 0 0)
    unfold MutPost
    exact ⟨_, HF1, HF2⟩
end Go.Proofs.YtmapmeacjpoaoaaDoor
