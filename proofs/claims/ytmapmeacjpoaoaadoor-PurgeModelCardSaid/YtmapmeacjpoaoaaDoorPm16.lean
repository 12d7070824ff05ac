/- What the model's txn does. -/
import Derived.Test.YtmapmeacjpoaoaaDoorPm15
namespace Go.Proofs.YtmapmeacjpoaoaaDoor
open Go Go.RowKit

set_option maxRecDepth 4000 in
set_option maxHeartbeats 4000000 in
theorem txn_any (G : Nat → Prop) (w : World) (B n : Nat) (vn vu vq vg : Value) (X : Mv) (m : St) (o : Opr) (u : Value) (h : Mem G w B n vn vu vq vg X m) (h0 : 0 ≤ o.level) (h1 : o.level < n) (hsl : m.ses.length ≤ 1000) :
    Calls Tryd.prog 30 #[.pointer (some ⟨B, 0, none⟩), opv (o.put u)] w (MutPost G w B n vn vu vq vg X (M.txn m o).1 (M.txn m o).2) := by
  have hE := (Ent.box h.mr o u).alloc ((Below.refl _ _).alloc (Nat.le_refl _) (.cells #[.int .i64 0, .int .i64 0, (.slice none 0 0), .int .i64 0, .int .i64 0, .int .i64 0, .int .i64 0, (.slice none 0 0)] 45))
  have hR : Rb ((w.alloc (.cells (opc o u) 33)).alloc (.cells #[.int .i64 0, .int .i64 0, (.slice none 0 0), .int .i64 0, .int .i64 0, .int .i64 0, .int .i64 0, (.slice none 0 0)] 45)) (w.alloc (.cells (opc o u) 33)).heap.size 0 0 (.slice none 0 0) (.slice none 0 0) := heap_alloc_new _ _
  have hR2 : w.heap.size < (w.alloc (.cells (opc o u) 33)).heap.size := by simp
  have hR3 : (w.alloc (.cells (opc o u) 33)).heap.size < ((w.alloc (.cells (opc o u) 33)).alloc (.cells #[.int .i64 0, .int .i64 0, (.slice none 0 0), .int .i64 0, .int .i64 0, .int .i64 0, .int .i64 0, (.slice none 0 0)] 45)).heap.size := by simp
  obtain ⟨w2, hw2⟩ : ∃ w2, (w.alloc (.cells (opc o u) 33)).alloc (.cells #[.int .i64 0, .int .i64 0, (.slice none 0 0), .int .i64 0, .int .i64 0, .int .i64 0, .int .i64 0, (.slice none 0 0)] 45) = w2 := ⟨_, rfl⟩
  obtain ⟨R, hRR⟩ : ∃ R, (w.alloc (.cells (opc o u) 33)).heap.size = R := ⟨_, rfl⟩
  have hRQ : w.heap.size + 1 = R := by rw [← hRR]; simp
  obtain ⟨Qo, hQo⟩ : ∃ Qo, w.heap.size = Qo := ⟨_, rfl⟩
  rw [hw2] at hE hR hR3
  rw [hRR] at hR hR2 hR3
  have HE := Lib.hid hE
  have HR2 := Lib.hid hR2
  have HM := Lib.hid (h.wide hE.b (Nat.le_of_lt hR2) hR3)
  have HX : Hid (Ex (X.foot B) w2 w2) := Ex.refl _ _
  have HLT := Lib.hid h.lt
  have HXG := Lib.hid h.g
  have HNE := Lib.hid h.ne
  have HQF : Hid (¬ X.foot B Qo) := fun hf => by
    have := h.lt Qo (h.g Qo hf)
    omega
  have HRb : Hid (∀ W, Ex (X.foot B) w2 W → Rb W R 0 0 (.slice none 0 0) (.slice none 0 0)) := fun W hW => hR.ex hW fun hf => by
    have := h.lt R (h.g R hf)
    omega
  obtain ⟨o0, o1, o2, o3, o4, o5, o6, o7, o8, o9, kk⟩ := o
  have HOP := Lib.hid (fun W (hW : Ex (X.foot B) w2 W) => hE.atx hW (by rw [hQo]; exact HQF.out))
  simp only [] at HOP
  rw [hQo] at HOP
  simp only [] at h0 h1
  obtain ⟨x, rfl⟩ : ∃ x : Nat, o1 = (x : Int) := ⟨o1.toNat, by omega⟩
  have hxn : x < n := by omega
  have HXn := Lib.hid hxn
  have HSL := Lib.hid hsl
  obtain ⟨hx, hhx⟩ : ∃ z, m.has.getD x 0 = z := ⟨_, rfl⟩
  have HHX := Lib.hid hhx
  have hx0 : (0 : Int) ≤ (x : Int) := by omega
  have hxI : (x : Int) < (n : Int) := by omega
  clear hhx h0 h1 hsl
  simp only [Op11.put, opc] at hw2 ⊢
  rw [hQo] at hRQ HE
  clear h hE hR hR2 hR3 hRR
  go_enter Tryd.func30, Tryd.ntmps30
  go_wp2_with fail
  clear hw2 hQo hRQ
  have c6 : w2.cell? ⟨B, 6, none⟩ = some (slv X.bH n) := HM.out.b.cells.c6
  obtain ⟨-, p1, p2, -, -, -, -, -, -, -, -⟩ := HOP.out w2 HX.out
  have hh : w2.cell? ⟨X.bH, x, none⟩ = some (.int .i64 hx) := by
    rw [← HHX.out]
    exact HM.out.mr.hasAt HXn.out
  go_quiet (fail)
  have HMq := Lib.hid (HM.out.below (below_drewN w2 nq))
  have HXq : Hid (Ex (X.foot B) w2 (w2.drewN nq)) := HX.out.trans (Ex.of_below (below_drewN w2 nq))
  clear HM HX c6 p1 p2 hh
  generalize w2.drewN nq = w3 at *
  have HM := HMq
  have HX := HXq
  clear HMq HXq
  by_cases hk2 : o0 = 2
  · subst hk2
    have dk1 : decide ((2 : Int) = 1) = false := by decide
    have ek1 : ((2 : Int) == 1) = false := by decide
    have dk2 : decide ((2 : Int) = 2) = true := by decide
    have ek2 : ((2 : Int) == 2) = true := by decide
    have dk3 : decide ((2 : Int) = 3) = false := by decide
    have ek3 : ((2 : Int) == 3) = false := by decide
    have c6 : w3.cell? ⟨B, 6, none⟩ = some (slv X.bH n) := HM.out.b.cells.c6
    obtain ⟨p0, p1, p2, -, -, -, -, -, -, -, -⟩ := HOP.out w3 HX.out
    have hh : w3.cell? ⟨X.bH, x, none⟩ = some (.int .i64 hx) := by
      rw [← HHX.out]
      exact HM.out.mr.hasAt HXn.out
    go_wp2_with fail
    go_quiet (fail)
    have HMq := Lib.hid (HM.out.below (below_drewN w3 nq))
    have HXq : Hid (Ex (X.foot B) w2 (w3.drewN nq)) := HX.out.trans (Ex.of_below (below_drewN w3 nq))
    clear HM HX c6 p0 p1 p2 hh
    generalize w3.drewN nq = w4 at *
    have HM := HMq
    have HX := HXq
    clear HMq HXq
    by_cases hg : 0 < hx
    · have dg : decide (0 < hx) = true := by simp [hg]
      skip
      have HRES : Hid (M.txn m ⟨2, (x : Int), o2, o3, o4, o5, o6, o7, o8, o9, kk⟩ = (M.bad 36, m)) := by unfold Hid M.txn; simp only [Int.toNat_natCast, HHX.out]; simp [hg]
      have st := Lib.hid (not_any 36 w4)
      go_wp2_with fail
      refine st.out.mono ?_
      rintro e wn ⟨rfl, hx⟩
      have HMn := Lib.hid (HM.out.below hx)
      have HXn : Hid (Ex (X.foot B) w2 wn) := HX.out.trans (Ex.of_below hx)
      clear st hx HM HX
      have hrb := HRb.out wn HXn.out
      obtain ⟨⟨v0, z0⟩, ⟨v1, z1⟩, ⟨v2, z2⟩, ⟨v3, z3⟩, ⟨v4, z4⟩, ⟨v5, z5⟩, ⟨v6, z6⟩, ⟨v7, z7⟩⟩ := hrb.olds
      have y0 := hrb.go 0
      have y1 := hrb.go 1
      have y2 := hrb.go 2
      have y3 := hrb.go 3
      have y4 := hrb.go 4
      have y5 := hrb.go 5
      have y6 := hrb.go 6
      have y7 := hrb.go 7
      clear hrb
      go_wp2_with fail
      refine bodyPost_ret (res_results rfl _ _ R 36 0 (.slice none 0 0) (.slice none 0 0) rfl ((HRb.out wn HXn.out).put 36 0 (.slice none 0 0) (.slice none 0 0))) rfl ?_
      have HF1 : Ending.returned (resv 36 0 (.slice none 0 0) (.slice none 0 0)) = Ending.returned (resv (M.txn m ⟨2, (x : Int), o2, o3, o4, o5, o6, o7, o8, o9, kk⟩).1.e (M.txn m ⟨2, (x : Int), o2, o3, o4, o5, o6, o7, o8, o9, kk⟩).1.n (.slice none 0 0) (.slice none 0 0)) := by rw [HRES.out] <;> rfl
      have HF2 : Left G w (rbw wn R 36 0 (.slice none 0 0) (.slice none 0 0)) B n vn vu vq vg X X (M.txn m ⟨2, (x : Int), o2, o3, o4, o5, o6, o7, o8, o9, kk⟩).2 := by
        rw [HRES.out]
        exact Left.res1 HLT.out HXG.out HMn.out (Ex.trans (Ex.of_below HE.out.b) HXn.out) (Nat.le_of_lt HR2.out) rfl 36 0 (.slice none 0 0) (.slice none 0 0)
      unfold MutPost
      exact ⟨_, HF1, HF2⟩
    · have dg : decide (0 < hx) = false := by simp [hg]
      have HRES : Hid (M.txn m ⟨2, (x : Int), o2, o3, o4, o5, o6, o7, o8, o9, kk⟩ = (M.ok, { m with has := m.has.set x o2, dr := m.dr.set x (m.L.getD x []) })) := by unfold Hid M.txn; simp only [Int.toNat_natCast, HHX.out]; simp [hg]
      go_wp2_with fail
      refine Two.Ph.wp_region_mix3 Two.Ph.eq_grow (ex_grow' (fun k => k = X.bH)) (fun _ _ h => h ▸ Ex.refl _ _) [9] [(0, 2), (1, 2), (2, 2), (3, 2), (4, 2), (5, 2), (6, 2), (7, 2), (8, 2), (9, 1)] (by kernel_rfl) (by kernel_rfl) ?_
      have HMq := Lib.hid (HM.out.below (Below.drew (Below.refl _ _)))
      have HXq : Hid (Ex (X.foot B) w2 w4.drew) := HX.out.trans (Ex.of_below (Below.drew (Below.refl _ _)))
      clear HM HX
      generalize w4.drew = wd at *
      have HM := HMq
      have HX := HXq
      clear HMq HXq
      have c6 : wd.cell? ⟨B, 6, none⟩ = some (slv X.bH n) := HM.out.b.cells.c6
      obtain ⟨-, p1, p2, -, -, -, -, -, -, -, -⟩ := HOP.out wd HX.out
      obtain ⟨⟨q8, hq8⟩, hf8⟩ := own_go1 HM.out.b.oH HXn.out
      repeat ((first | refine Two.Ph.mix3_soft rfl (fun K hK => ?_) | refine Two.Ph.mix3_soon rfl (fun K hK => ?_)); go_simp; (first | (refine hK _ ?_; clear hK K) | (apply Exists.intro; refine ⟨fun z => ?_, hK _ ?_⟩; (first | done); clear hK K)))
      refine Two.Ph.mix3_loud rfl (fun K hK => ?_)
      go_simp
      refine ⟨Ex.setCell (G := fun k => k = X.bH) _ _ _ rfl _, hK _ _ ?_⟩
      clear hK K
      refine Two.Ph.mix3_done fun w9 h9 => ?_
      subst h9
      have HMq := Lib.hid (HM.out.setH x o2)
      have HXq : Hid (Ex (X.foot B) w2 (wd.setCell ⟨X.bH, x, none⟩ (.int .i64 o2))) := HX.out.trans (Ex.setCell wd _ _ (by unfold Mv.foot; simp) _)
      clear HM HX hq8 hf8
      obtain ⟨w5, hw9⟩ : ∃ w9, wd.setCell ⟨X.bH, x, none⟩ (.int .i64 o2) = w9 := ⟨_, rfl⟩
      rw [hw9] at HMq HXq ⊢
      clear hw9
      have HM := HMq
      have HX := HXq
      clear HMq HXq
      go_wp2_with fail
      refine Two.Ph.wp_region_mix3 Two.Ph.eq_grow (ex_grow' (fun k => k = X.bD)) (fun _ _ h => h ▸ Ex.refl _ _) [15] [(0, 2), (1, 2), (2, 2), (3, 2), (4, 2), (5, 2), (6, 2), (7, 2), (8, 2), (9, 2), (10, 2), (11, 2), (12, 2), (13, 2), (14, 2), (15, 1)] (by kernel_rfl) (by kernel_rfl) ?_
      have HMq := Lib.hid (HM.out.below (Below.drew (Below.refl _ _)))
      have HXq : Hid (Ex (X.foot B) w2 w5.drew) := HX.out.trans (Ex.of_below (Below.drew (Below.refl _ _)))
      clear HM HX
      generalize w5.drew = wd at *
      have HM := HMq
      have HX := HXq
      clear HMq HXq
      have c4 : wd.cell? ⟨B, 4, none⟩ = some (slv X.bL n) := HM.out.b.cells.c4
      have c7 : wd.cell? ⟨B, 7, none⟩ = some (slv X.bD n) := HM.out.b.cells.c7
      obtain ⟨-, p1, -, -, -, -, -, -, -, -, -⟩ := HOP.out wd HX.out
      obtain ⟨sa, sc, hsc, hsf⟩ := HM.out.fzL HXn.out
      have HSF := Lib.hid hsf
      clear hsf
      obtain ⟨SL, hSL⟩ : ∃ l, (m.L.getD x []) = l := ⟨_, rfl⟩
      try simp only [] at hsc HSF
      rw [hSL] at hsc HSF
      obtain ⟨SN, hSN⟩ : ∃ k, SL.length = k := ⟨_, rfl⟩
      rw [hSN] at hsc HSF
      clear hSN
      obtain ⟨⟨q8, hq8⟩, hf8⟩ := own_go1 HM.out.b.oD HXn.out
      repeat ((first | refine Two.Ph.mix3_soft rfl (fun K hK => ?_) | refine Two.Ph.mix3_soon rfl (fun K hK => ?_)); go_simp; (first | (refine hK _ ?_; clear hK K) | (apply Exists.intro; refine ⟨fun z => ?_, hK _ ?_⟩; (first | done); clear hK K)))
      refine Two.Ph.mix3_loud rfl (fun K hK => ?_)
      go_simp
      refine ⟨Ex.setCell (G := fun k => k = X.bD) _ _ _ rfl _, hK _ _ ?_⟩
      clear hK K
      refine Two.Ph.mix3_done fun w9 h9 => ?_
      subst h9
      have HMq := Lib.hid (HM.out.setD x (.slice sa SN sc) SL HSF.out)
      have HXq : Hid (Ex (X.foot B) w2 (wd.setCell ⟨X.bD, x, none⟩ (.slice sa SN sc))) := HX.out.trans (Ex.setCell wd _ _ (by unfold Mv.foot; simp) _)
      clear HM HX hq8 hf8
      obtain ⟨w6, hw9⟩ : ∃ w9, wd.setCell ⟨X.bD, x, none⟩ (.slice sa SN sc) = w9 := ⟨_, rfl⟩
      rw [hw9] at HMq HXq ⊢
      clear hw9
      have HM := HMq
      have HX := HXq
      clear HMq HXq
      rw [hSL] at HRES
      have hrb := HRb.out w6 HX.out
      obtain ⟨⟨v0, z0⟩, ⟨v1, z1⟩, ⟨v2, z2⟩, ⟨v3, z3⟩, ⟨v4, z4⟩, ⟨v5, z5⟩, ⟨v6, z6⟩, ⟨v7, z7⟩⟩ := hrb.olds
      have y0 := hrb.go 0
      have y1 := hrb.go 1
      have y2 := hrb.go 2
      have y3 := hrb.go 3
      have y4 := hrb.go 4
      have y5 := hrb.go 5
      have y6 := hrb.go 6
      have y7 := hrb.go 7
      clear hrb
      go_wp2_with fail
      refine bodyPost_ret (res_results rfl _ _ R 0 0 (.slice none 0 0) (.slice none 0 0) rfl ((HRb.out w6 HX.out).put 0 0 (.slice none 0 0) (.slice none 0 0))) rfl ?_
      have HF1 : Ending.returned (resv 0 0 (.slice none 0 0) (.slice none 0 0)) = Ending.returned (resv (M.txn m ⟨2, (x : Int), o2, o3, o4, o5, o6, o7, o8, o9, kk⟩).1.e (M.txn m ⟨2, (x : Int), o2, o3, o4, o5, o6, o7, o8, o9, kk⟩).1.n (.slice none 0 0) (.slice none 0 0)) := by rw [HRES.out] <;> rfl
      have HF2 : Left G w (rbw w6 R 0 0 (.slice none 0 0) (.slice none 0 0)) B n vn vu vq vg X { X with ds := X.ds.set x (.slice sa SN sc) } (M.txn m ⟨2, (x : Int), o2, o3, o4, o5, o6, o7, o8, o9, kk⟩).2 := by
        rw [HRES.out]
        exact Left.res1 HLT.out HXG.out HM.out (Ex.trans (Ex.of_below HE.out.b) HX.out) (Nat.le_of_lt HR2.out) rfl 0 0 (.slice none 0 0) (.slice none 0 0)
      unfold MutPost
      exact ⟨_, HF1, HF2⟩
  · by_cases hk1 : o0 = 1
    · subst hk1
      have dk1 : decide ((1 : Int) = 1) = true := by decide
      have ek1 : ((1 : Int) == 1) = true := by decide
      have dk2 : decide ((1 : Int) = 2) = false := by decide
      have ek2 : ((1 : Int) == 2) = false := by decide
      have dk3 : decide ((1 : Int) = 3) = false := by decide
      have ek3 : ((1 : Int) == 3) = false := by decide
      obtain ⟨p0, -, -, -, -, -, -, -, -, -, -⟩ := HOP.out w3 HX.out
      go_wp2_with fail
      refine wp_region_mix ext_grow [(0, false), (1, false), (2, false), (3, false), (4, false), (5, false), (6, false), (7, false), (8, true), (9, false), (10, false), (11, false), (12, false), (13, false)] (by kernel_rfl) (by kernel_rfl) ?_
      have HMq := Lib.hid (HM.out.below (Below.drew (Below.refl _ _)))
      have HXq : Hid (Ex (X.foot B) w2 w3.drew) := HX.out.trans (Ex.of_below (Below.drew (Below.refl _ _)))
      clear HM HX p0
      generalize w3.drew = wd at *
      have HM := HMq
      have HX := HXq
      clear HMq HXq
      have q8 : ∀ z : Later wd, z.1.cell? ⟨B, 8, none⟩ = some X.vs := fun z => (HM.out.b.below z.2).cells.c8
      have p1 : ∀ z : Later wd, z.1.cell? ⟨Qo, 1, none⟩ = some (.int .i64 (x : Int)) := fun z => (HOP.out z.1 (HX.out.trans (Ex.of_below z.2))).2.1
      have p2 : ∀ z : Later wd, z.1.cell? ⟨Qo, 2, none⟩ = some (.int .i64 o2) := fun z => (HOP.out z.1 (HX.out.trans (Ex.of_below z.2))).2.2.1
      repeat (refine mix_soft rfl (fun K hK => ?_); go_simp; (first | (refine hK _ ?_; clear hK K) | (apply Exists.intro; refine ⟨fun z => ?_, hK _ ?_⟩; (first | done); clear hK K)))
      clear q8 p1 p2
      refine mix_loud rfl (fun K hK => ?_)
      go_simp
      intro z
      have HMz := Lib.hid (HM.out.below z.2)
      refine (sclose_any (fun k => G k ∨ k = R) X.vs X.us m.ses (x : Int) o2 z.1 (fun W hW => (HMz.out.f W hW).S) HMz.out.lt HSL.out).mono ?_
      rintro e w4 ⟨v4, us4, b4, rfl, hfs, hb4⟩
      refine ⟨_, rfl, hb4, hK _ _ ?_⟩
      have HFS := Lib.hid hfs
      have HMq := Lib.hid (HMz.out.below hb4)
      have HXq : Hid (Ex (X.foot B) w2 w4) := HX.out.trans (Ex.of_below (below_next z.2 hb4))
      clear hK K hfs hb4 HMz HM HX
      generalize z.1 = wz at *
      clear z
      have HM := HMq
      have HX := HXq
      clear HMq HXq
      obtain ⟨va, vn', vc, rfl⟩ : ∃ a n c, v4 = .slice a n c := by
        obtain ⟨a, c, e, -⟩ := HFS.out.here.sl.shape
        exact ⟨a, _, c, e⟩
      repeat (refine mix_soft rfl (fun K hK => ?_); go_simp; (first | (refine hK _ ?_; clear hK K) | (apply Exists.intro; refine ⟨fun z => ?_, hK _ ?_⟩; (first | done); clear hK K)))
      refine mix_done fun w5 hx5 => ?_
      have HFq := Lib.hid (HFS.out.below hx5)
      have HMq := Lib.hid (HM.out.below hx5)
      have HXq : Hid (Ex (X.foot B) w2 w5) := HX.out.trans (Ex.of_below hx5)
      clear HFS HM HX hx5
      have c8 := HMq.out.b.cells.c8
      have f8 := HMq.out.b.free 8
      have HM := Lib.hid (HMq.out.setS (.slice va vn' vc) us4 (M.close m.ses (x : Int) o2) HFq.out)
      have HX : Hid (Ex (X.foot B) w2 (w5.setCell ⟨B, 8, none⟩ (.slice va vn' vc))) := HXq.out.trans (Ex.setCell w5 B 8 (by unfold Mv.foot; simp) _)
      clear HMq HXq HFq
      obtain ⟨p0, -, -, -, -, -, -, -, -, -, -⟩ := HOP.out (w5.setCell ⟨B, 8, none⟩ (.slice va vn' vc)) HX.out
      by_cases hs : hx = o2
      · have ee : (hx == o2) = true := by simp [hs]
        have ed : decide (hx = o2) = true := by simp [hs]
        have HRES : Hid (M.txn m ⟨1, (x : Int), o2, o3, o4, o5, o6, o7, o8, o9, kk⟩ = (M.ok, { m with ses := (M.close m.ses (x : Int) o2), has := m.has.set x 0 })) := by
          unfold Hid M.txn
          simp only [Int.toNat_natCast, HHX.out]
          simp [hs]
        go_wp2_with fail
        refine Two.Ph.wp_region_mix3 Two.Ph.eq_grow (ex_grow' (fun k => k = X.bH)) (fun _ _ h => h ▸ Ex.refl _ _) [7] [(0, 2), (1, 2), (2, 2), (3, 2), (4, 2), (5, 2), (6, 2), (7, 1)] (by kernel_rfl) (by kernel_rfl) ?_
        have HMq := Lib.hid (HM.out.below (Below.drew (Below.refl _ _)))
        have HXq : Hid (Ex (X.foot B) w2 (w5.setCell ⟨B, 8, none⟩ (.slice va vn' vc)).drew) := HX.out.trans (Ex.of_below (Below.drew (Below.refl _ _)))
        clear HM HX
        generalize (w5.setCell ⟨B, 8, none⟩ (.slice va vn' vc)).drew = wd at *
        have HM := HMq
        have HX := HXq
        clear HMq HXq
        have c6 : wd.cell? ⟨B, 6, none⟩ = some (slv X.bH n) := HM.out.b.cells.c6
        obtain ⟨-, p1, p2, -, -, -, -, -, -, -, -⟩ := HOP.out wd HX.out
        obtain ⟨⟨q8, hq8⟩, hf8⟩ := own_go1 HM.out.b.oH HXn.out
        repeat ((first | refine Two.Ph.mix3_soft rfl (fun K hK => ?_) | refine Two.Ph.mix3_soon rfl (fun K hK => ?_)); go_simp; (first | (refine hK _ ?_; clear hK K) | (apply Exists.intro; refine ⟨fun z => ?_, hK _ ?_⟩; (first | done); clear hK K)))
        refine Two.Ph.mix3_loud rfl (fun K hK => ?_)
        go_simp
        refine ⟨Ex.setCell (G := fun k => k = X.bH) _ _ _ rfl _, hK _ _ ?_⟩
        clear hK K
        refine Two.Ph.mix3_done fun w9 h9 => ?_
        subst h9
        have HMq := Lib.hid (HM.out.setH x 0)
        have HXq : Hid (Ex (X.foot B) w2 (wd.setCell ⟨X.bH, x, none⟩ (.int .i64 0))) := HX.out.trans (Ex.setCell wd _ _ (by unfold Mv.foot; simp) _)
        clear HM HX hq8 hf8
        obtain ⟨wh, hw9⟩ : ∃ w9, wd.setCell ⟨X.bH, x, none⟩ (.int .i64 0) = w9 := ⟨_, rfl⟩
        rw [hw9] at HMq HXq ⊢
        clear hw9
        have HM := HMq
        have HX := HXq
        clear HMq HXq
        have hrb := HRb.out wh HX.out
        obtain ⟨⟨v0, z0⟩, ⟨v1, z1⟩, ⟨v2, z2⟩, ⟨v3, z3⟩, ⟨v4, z4⟩, ⟨v5, z5⟩, ⟨v6, z6⟩, ⟨v7, z7⟩⟩ := hrb.olds
        have y0 := hrb.go 0
        have y1 := hrb.go 1
        have y2 := hrb.go 2
        have y3 := hrb.go 3
        have y4 := hrb.go 4
        have y5 := hrb.go 5
        have y6 := hrb.go 6
        have y7 := hrb.go 7
        clear hrb
        go_wp2_with fail
        refine bodyPost_ret (res_results rfl _ _ R 0 0 (.slice none 0 0) (.slice none 0 0) rfl ((HRb.out wh HX.out).put 0 0 (.slice none 0 0) (.slice none 0 0))) rfl ?_
        have HF1 : Ending.returned (resv 0 0 (.slice none 0 0) (.slice none 0 0)) = Ending.returned (resv (M.txn m ⟨1, (x : Int), o2, o3, o4, o5, o6, o7, o8, o9, kk⟩).1.e (M.txn m ⟨1, (x : Int), o2, o3, o4, o5, o6, o7, o8, o9, kk⟩).1.n (.slice none 0 0) (.slice none 0 0)) := by rw [HRES.out] <;> rfl
        have HF2 : Left G w (rbw wh R 0 0 (.slice none 0 0) (.slice none 0 0)) B n vn vu vq vg X { X with vs := .slice va vn' vc, us := us4 } (M.txn m ⟨1, (x : Int), o2, o3, o4, o5, o6, o7, o8, o9, kk⟩).2 := by
          rw [HRES.out]
          exact Left.res1 HLT.out HXG.out HM.out (Ex.trans (Ex.of_below HE.out.b) HX.out) (Nat.le_of_lt HR2.out) rfl 0 0 (.slice none 0 0) (.slice none 0 0)
        unfold MutPost
        exact ⟨_, HF1, HF2⟩
      · have ee : (hx == o2) = false := by simp [hs]
        have ed : decide (hx = o2) = false := by simp [hs]
        have HRES : Hid (M.txn m ⟨1, (x : Int), o2, o3, o4, o5, o6, o7, o8, o9, kk⟩ = (M.ok, { m with ses := (M.close m.ses (x : Int) o2) })) := by
          unfold Hid M.txn
          simp only [Int.toNat_natCast, HHX.out]
          simp [hs]
        have hrb := HRb.out (w5.setCell ⟨B, 8, none⟩ (.slice va vn' vc)) HX.out
        obtain ⟨⟨v0, z0⟩, ⟨v1, z1⟩, ⟨v2, z2⟩, ⟨v3, z3⟩, ⟨v4, z4⟩, ⟨v5, z5⟩, ⟨v6, z6⟩, ⟨v7, z7⟩⟩ := hrb.olds
        have y0 := hrb.go 0
        have y1 := hrb.go 1
        have y2 := hrb.go 2
        have y3 := hrb.go 3
        have y4 := hrb.go 4
        have y5 := hrb.go 5
        have y6 := hrb.go 6
        have y7 := hrb.go 7
        clear hrb
        go_wp2_with fail
        refine bodyPost_ret (res_results rfl _ _ R 0 0 (.slice none 0 0) (.slice none 0 0) rfl ((HRb.out (w5.setCell ⟨B, 8, none⟩ (.slice va vn' vc)) HX.out).put 0 0 (.slice none 0 0) (.slice none 0 0))) rfl ?_
        have HF1 : Ending.returned (resv 0 0 (.slice none 0 0) (.slice none 0 0)) = Ending.returned (resv (M.txn m ⟨1, (x : Int), o2, o3, o4, o5, o6, o7, o8, o9, kk⟩).1.e (M.txn m ⟨1, (x : Int), o2, o3, o4, o5, o6, o7, o8, o9, kk⟩).1.n (.slice none 0 0) (.slice none 0 0)) := by rw [HRES.out] <;> rfl
        have HF2 : Left G w (rbw (w5.setCell ⟨B, 8, none⟩ (.slice va vn' vc)) R 0 0 (.slice none 0 0) (.slice none 0 0)) B n vn vu vq vg X { X with vs := .slice va vn' vc, us := us4 } (M.txn m ⟨1, (x : Int), o2, o3, o4, o5, o6, o7, o8, o9, kk⟩).2 := by
          rw [HRES.out]
          exact Left.res1 HLT.out HXG.out HM.out (Ex.trans (Ex.of_below HE.out.b) HX.out) (Nat.le_of_lt HR2.out) rfl 0 0 (.slice none 0 0) (.slice none 0 0)
        unfold MutPost
        exact ⟨_, HF1, HF2⟩
    · by_cases hk3 : o0 = 3
      · subst hk3
        have dk1 : decide ((3 : Int) = 1) = false := by decide
        have ek1 : ((3 : Int) == 1) = false := by decide
        have dk2 : decide ((3 : Int) = 2) = false := by decide
        have ek2 : ((3 : Int) == 2) = false := by decide
        have dk3 : decide ((3 : Int) = 3) = true := by decide
        have ek3 : ((3 : Int) == 3) = true := by decide
        obtain ⟨p0, -, -, -, -, -, -, -, -, -, -⟩ := HOP.out w3 HX.out
        by_cases hs : hx = o2
        · have ee : (hx == o2) = true := by simp [hs]
          have ed : decide (hx = o2) = true := by simp [hs]
          have HRES : Hid (M.txn m ⟨3, (x : Int), o2, o3, o4, o5, o6, o7, o8, o9, kk⟩ = (M.ok, { m with L := m.L.set x (m.dr.getD x []), has := m.has.set x 0 })) := by
            unfold Hid M.txn
            simp only [Int.toNat_natCast, HHX.out]
            simp [hs]
          go_wp2_with fail
          refine Two.Ph.wp_region_mix3 Two.Ph.eq_grow (ex_grow' (fun k => k = X.bL)) (fun _ _ h => h ▸ Ex.refl _ _) [15] [(0, 2), (1, 2), (2, 2), (3, 2), (4, 2), (5, 2), (6, 2), (7, 2), (8, 2), (9, 2), (10, 2), (11, 2), (12, 2), (13, 2), (14, 2), (15, 1)] (by kernel_rfl) (by kernel_rfl) ?_
          have HMq := Lib.hid (HM.out.below (Below.drew (Below.refl _ _)))
          have HXq : Hid (Ex (X.foot B) w2 w3.drew) := HX.out.trans (Ex.of_below (Below.drew (Below.refl _ _)))
          clear HM HX
          generalize w3.drew = wd at *
          have HM := HMq
          have HX := HXq
          clear HMq HXq
          have c4 : wd.cell? ⟨B, 4, none⟩ = some (slv X.bL n) := HM.out.b.cells.c4
          have c7 : wd.cell? ⟨B, 7, none⟩ = some (slv X.bD n) := HM.out.b.cells.c7
          obtain ⟨-, p1, -, -, -, -, -, -, -, -, -⟩ := HOP.out wd HX.out
          obtain ⟨sa, sc, hsc, hsf⟩ := HM.out.fzD HXn.out
          have HSF := Lib.hid hsf
          clear hsf
          obtain ⟨SL, hSL⟩ : ∃ l, (m.dr.getD x []) = l := ⟨_, rfl⟩
          try simp only [] at hsc HSF
          rw [hSL] at hsc HSF
          obtain ⟨SN, hSN⟩ : ∃ k, SL.length = k := ⟨_, rfl⟩
          rw [hSN] at hsc HSF
          clear hSN
          obtain ⟨⟨q8, hq8⟩, hf8⟩ := own_go1 HM.out.b.oL HXn.out
          repeat ((first | refine Two.Ph.mix3_soft rfl (fun K hK => ?_) | refine Two.Ph.mix3_soon rfl (fun K hK => ?_)); go_simp; (first | (refine hK _ ?_; clear hK K) | (apply Exists.intro; refine ⟨fun z => ?_, hK _ ?_⟩; (first | done); clear hK K)))
          refine Two.Ph.mix3_loud rfl (fun K hK => ?_)
          go_simp
          refine ⟨Ex.setCell (G := fun k => k = X.bL) _ _ _ rfl _, hK _ _ ?_⟩
          clear hK K
          refine Two.Ph.mix3_done fun w9 h9 => ?_
          subst h9
          have HMq := Lib.hid (HM.out.setL x (.slice sa SN sc) SL HSF.out)
          have HXq : Hid (Ex (X.foot B) w2 (wd.setCell ⟨X.bL, x, none⟩ (.slice sa SN sc))) := HX.out.trans (Ex.setCell wd _ _ (by unfold Mv.foot; simp) _)
          clear HM HX hq8 hf8
          obtain ⟨wc, hw9⟩ : ∃ w9, wd.setCell ⟨X.bL, x, none⟩ (.slice sa SN sc) = w9 := ⟨_, rfl⟩
          rw [hw9] at HMq HXq ⊢
          clear hw9
          have HM := HMq
          have HX := HXq
          clear HMq HXq
          rw [hSL] at HRES
          go_wp2_with fail
          refine Two.Ph.wp_region_mix3 Two.Ph.eq_grow (ex_grow' (fun k => k = X.bH)) (fun _ _ h => h ▸ Ex.refl _ _) [7] [(0, 2), (1, 2), (2, 2), (3, 2), (4, 2), (5, 2), (6, 2), (7, 1)] (by kernel_rfl) (by kernel_rfl) ?_
          have HMq := Lib.hid (HM.out.below (Below.drew (Below.refl _ _)))
          have HXq : Hid (Ex (X.foot B) w2 wc.drew) := HX.out.trans (Ex.of_below (Below.drew (Below.refl _ _)))
          clear HM HX
          generalize wc.drew = wd at *
          have HM := HMq
          have HX := HXq
          clear HMq HXq
          have c6 : wd.cell? ⟨B, 6, none⟩ = some (slv X.bH n) := HM.out.b.cells.c6
          obtain ⟨-, p1, p2, -, -, -, -, -, -, -, -⟩ := HOP.out wd HX.out
          obtain ⟨⟨q8, hq8⟩, hf8⟩ := own_go1 HM.out.b.oH HXn.out
          repeat ((first | refine Two.Ph.mix3_soft rfl (fun K hK => ?_) | refine Two.Ph.mix3_soon rfl (fun K hK => ?_)); go_simp; (first | (refine hK _ ?_; clear hK K) | (apply Exists.intro; refine ⟨fun z => ?_, hK _ ?_⟩; (first | done); clear hK K)))
          refine Two.Ph.mix3_loud rfl (fun K hK => ?_)
          go_simp
          refine ⟨Ex.setCell (G := fun k => k = X.bH) _ _ _ rfl _, hK _ _ ?_⟩
          clear hK K
          refine Two.Ph.mix3_done fun w9 h9 => ?_
          subst h9
          have HMq := Lib.hid (HM.out.setH x 0)
          have HXq : Hid (Ex (X.foot B) w2 (wd.setCell ⟨X.bH, x, none⟩ (.int .i64 0))) := HX.out.trans (Ex.setCell wd _ _ (by unfold Mv.foot; simp) _)
          clear HM HX hq8 hf8
          obtain ⟨wh, hw9⟩ : ∃ w9, wd.setCell ⟨X.bH, x, none⟩ (.int .i64 0) = w9 := ⟨_, rfl⟩
          rw [hw9] at HMq HXq ⊢
          clear hw9
          have HM := HMq
          have HX := HXq
          clear HMq HXq
          have hrb := HRb.out wh HX.out
          obtain ⟨⟨v0, z0⟩, ⟨v1, z1⟩, ⟨v2, z2⟩, ⟨v3, z3⟩, ⟨v4, z4⟩, ⟨v5, z5⟩, ⟨v6, z6⟩, ⟨v7, z7⟩⟩ := hrb.olds
          have y0 := hrb.go 0
          have y1 := hrb.go 1
          have y2 := hrb.go 2
          have y3 := hrb.go 3
          have y4 := hrb.go 4
          have y5 := hrb.go 5
          have y6 := hrb.go 6
          have y7 := hrb.go 7
          clear hrb
          go_wp2_with fail
          refine bodyPost_ret (res_results rfl _ _ R 0 0 (.slice none 0 0) (.slice none 0 0) rfl ((HRb.out wh HX.out).put 0 0 (.slice none 0 0) (.slice none 0 0))) rfl ?_
          have HF1 : Ending.returned (resv 0 0 (.slice none 0 0) (.slice none 0 0)) = Ending.returned (resv (M.txn m ⟨3, (x : Int), o2, o3, o4, o5, o6, o7, o8, o9, kk⟩).1.e (M.txn m ⟨3, (x : Int), o2, o3, o4, o5, o6, o7, o8, o9, kk⟩).1.n (.slice none 0 0) (.slice none 0 0)) := by rw [HRES.out] <;> rfl
          have HF2 : Left G w (rbw wh R 0 0 (.slice none 0 0) (.slice none 0 0)) B n vn vu vq vg X { X with ls := X.ls.set x (.slice sa SN sc) } (M.txn m ⟨3, (x : Int), o2, o3, o4, o5, o6, o7, o8, o9, kk⟩).2 := by
            rw [HRES.out]
            exact Left.res1 HLT.out HXG.out HM.out (Ex.trans (Ex.of_below HE.out.b) HX.out) (Nat.le_of_lt HR2.out) rfl 0 0 (.slice none 0 0) (.slice none 0 0)
          unfold MutPost
          exact ⟨_, HF1, HF2⟩
        · have ee : (hx == o2) = false := by simp [hs]
          have ed : decide (hx = o2) = false := by simp [hs]
          have HRES : Hid (M.txn m ⟨3, (x : Int), o2, o3, o4, o5, o6, o7, o8, o9, kk⟩ = (M.bad 35, m)) := by unfold Hid M.txn; simp only [Int.toNat_natCast, HHX.out]; simp [hs]
          have st := Lib.hid (not_any 35 w3)
          go_wp2_with fail
          refine st.out.mono ?_
          rintro e wn ⟨rfl, hx⟩
          have HMn := Lib.hid (HM.out.below hx)
          have HXn : Hid (Ex (X.foot B) w2 wn) := HX.out.trans (Ex.of_below hx)
          clear st hx HM HX
          have hrb := HRb.out wn HXn.out
          obtain ⟨⟨v0, z0⟩, ⟨v1, z1⟩, ⟨v2, z2⟩, ⟨v3, z3⟩, ⟨v4, z4⟩, ⟨v5, z5⟩, ⟨v6, z6⟩, ⟨v7, z7⟩⟩ := hrb.olds
          have y0 := hrb.go 0
          have y1 := hrb.go 1
          have y2 := hrb.go 2
          have y3 := hrb.go 3
          have y4 := hrb.go 4
          have y5 := hrb.go 5
          have y6 := hrb.go 6
          have y7 := hrb.go 7
          clear hrb
          go_wp2_with fail
          refine bodyPost_ret (res_results rfl _ _ R 35 0 (.slice none 0 0) (.slice none 0 0) rfl ((HRb.out wn HXn.out).put 35 0 (.slice none 0 0) (.slice none 0 0))) rfl ?_
          have HF1 : Ending.returned (resv 35 0 (.slice none 0 0) (.slice none 0 0)) = Ending.returned (resv (M.txn m ⟨3, (x : Int), o2, o3, o4, o5, o6, o7, o8, o9, kk⟩).1.e (M.txn m ⟨3, (x : Int), o2, o3, o4, o5, o6, o7, o8, o9, kk⟩).1.n (.slice none 0 0) (.slice none 0 0)) := by rw [HRES.out] <;> rfl
          have HF2 : Left G w (rbw wn R 35 0 (.slice none 0 0) (.slice none 0 0)) B n vn vu vq vg X X (M.txn m ⟨3, (x : Int), o2, o3, o4, o5, o6, o7, o8, o9, kk⟩).2 := by
            rw [HRES.out]
            exact Left.res1 HLT.out HXG.out HMn.out (Ex.trans (Ex.of_below HE.out.b) HXn.out) (Nat.le_of_lt HR2.out) rfl 35 0 (.slice none 0 0) (.slice none 0 0)
          unfold MutPost
          exact ⟨_, HF1, HF2⟩
      · skip
        have dk1 : decide (o0 = 1) = false := by simp [hk1]
        have ek1 : (o0 == 1) = false := by simp [hk1]
        have dk2 : decide (o0 = 2) = false := by simp [hk2]
        have ek2 : (o0 == 2) = false := by simp [hk2]
        have dk3 : decide (o0 = 3) = false := by simp [hk3]
        have ek3 : (o0 == 3) = false := by simp [hk3]
        obtain ⟨p0, -, -, -, -, -, -, -, -, -, -⟩ := HOP.out w3 HX.out
        by_cases hs : hx = o2
        · have ee : (hx == o2) = true := by simp [hs]
          have ed : decide (hx = o2) = true := by simp [hs]
          have HRES : Hid (M.txn m ⟨o0, (x : Int), o2, o3, o4, o5, o6, o7, o8, o9, kk⟩ = (M.ok, { m with has := m.has.set x 0 })) := by
            unfold Hid M.txn
            simp only [Int.toNat_natCast, HHX.out]
            simp [hs, hk1, hk2, hk3]
          go_wp2_with fail
          refine Two.Ph.wp_region_mix3 Two.Ph.eq_grow (ex_grow' (fun k => k = X.bH)) (fun _ _ h => h ▸ Ex.refl _ _) [7] [(0, 2), (1, 2), (2, 2), (3, 2), (4, 2), (5, 2), (6, 2), (7, 1)] (by kernel_rfl) (by kernel_rfl) ?_
          have HMq := Lib.hid (HM.out.below (Below.drew (Below.refl _ _)))
          have HXq : Hid (Ex (X.foot B) w2 w3.drew) := HX.out.trans (Ex.of_below (Below.drew (Below.refl _ _)))
          clear HM HX
          generalize w3.drew = wd at *
          have HM := HMq
          have HX := HXq
          clear HMq HXq
          have c6 : wd.cell? ⟨B, 6, none⟩ = some (slv X.bH n) := HM.out.b.cells.c6
          obtain ⟨-, p1, p2, -, -, -, -, -, -, -, -⟩ := HOP.out wd HX.out
          obtain ⟨⟨q8, hq8⟩, hf8⟩ := own_go1 HM.out.b.oH HXn.out
          repeat ((first | refine Two.Ph.mix3_soft rfl (fun K hK => ?_) | refine Two.Ph.mix3_soon rfl (fun K hK => ?_)); go_simp; (first | (refine hK _ ?_; clear hK K) | (apply Exists.intro; refine ⟨fun z => ?_, hK _ ?_⟩; (first | done); clear hK K)))
          refine Two.Ph.mix3_loud rfl (fun K hK => ?_)
          go_simp
          refine ⟨Ex.setCell (G := fun k => k = X.bH) _ _ _ rfl _, hK _ _ ?_⟩
          clear hK K
          refine Two.Ph.mix3_done fun w9 h9 => ?_
          subst h9
          have HMq := Lib.hid (HM.out.setH x 0)
          have HXq : Hid (Ex (X.foot B) w2 (wd.setCell ⟨X.bH, x, none⟩ (.int .i64 0))) := HX.out.trans (Ex.setCell wd _ _ (by unfold Mv.foot; simp) _)
          clear HM HX hq8 hf8
          obtain ⟨wh, hw9⟩ : ∃ w9, wd.setCell ⟨X.bH, x, none⟩ (.int .i64 0) = w9 := ⟨_, rfl⟩
          rw [hw9] at HMq HXq ⊢
          clear hw9
          have HM := HMq
          have HX := HXq
          clear HMq HXq
          have hrb := HRb.out wh HX.out
          obtain ⟨⟨v0, z0⟩, ⟨v1, z1⟩, ⟨v2, z2⟩, ⟨v3, z3⟩, ⟨v4, z4⟩, ⟨v5, z5⟩, ⟨v6, z6⟩, ⟨v7, z7⟩⟩ := hrb.olds
          have y0 := hrb.go 0
          have y1 := hrb.go 1
          have y2 := hrb.go 2
          have y3 := hrb.go 3
          have y4 := hrb.go 4
          have y5 := hrb.go 5
          have y6 := hrb.go 6
          have y7 := hrb.go 7
          clear hrb
          go_wp2_with fail
          refine bodyPost_ret (res_results rfl _ _ R 0 0 (.slice none 0 0) (.slice none 0 0) rfl ((HRb.out wh HX.out).put 0 0 (.slice none 0 0) (.slice none 0 0))) rfl ?_
          have HF1 : Ending.returned (resv 0 0 (.slice none 0 0) (.slice none 0 0)) = Ending.returned (resv (M.txn m ⟨o0, (x : Int), o2, o3, o4, o5, o6, o7, o8, o9, kk⟩).1.e (M.txn m ⟨o0, (x : Int), o2, o3, o4, o5, o6, o7, o8, o9, kk⟩).1.n (.slice none 0 0) (.slice none 0 0)) := by rw [HRES.out] <;> rfl
          have HF2 : Left G w (rbw wh R 0 0 (.slice none 0 0) (.slice none 0 0)) B n vn vu vq vg X X (M.txn m ⟨o0, (x : Int), o2, o3, o4, o5, o6, o7, o8, o9, kk⟩).2 := by
            rw [HRES.out]
            exact Left.res1 HLT.out HXG.out HM.out (Ex.trans (Ex.of_below HE.out.b) HX.out) (Nat.le_of_lt HR2.out) rfl 0 0 (.slice none 0 0) (.slice none 0 0)
          unfold MutPost
          exact ⟨_, HF1, HF2⟩
        · have ee : (hx == o2) = false := by simp [hs]
          have ed : decide (hx = o2) = false := by simp [hs]
          have HRES : Hid (M.txn m ⟨o0, (x : Int), o2, o3, o4, o5, o6, o7, o8, o9, kk⟩ = (M.bad 35, m)) := by unfold Hid M.txn; simp only [Int.toNat_natCast, HHX.out]; simp [hs, hk1, hk2]
          have st := Lib.hid (not_any 35 w3)
          go_wp2_with fail
          refine st.out.mono ?_
          rintro e wn ⟨rfl, hx⟩
          have HMn := Lib.hid (HM.out.below hx)
          have HXn : Hid (Ex (X.foot B) w2 wn) := HX.out.trans (Ex.of_below hx)
          clear st hx HM HX
          have hrb := HRb.out wn HXn.out
          obtain ⟨⟨v0, z0⟩, ⟨v1, z1⟩, ⟨v2, z2⟩, ⟨v3, z3⟩, ⟨v4, z4⟩, ⟨v5, z5⟩, ⟨v6, z6⟩, ⟨v7, z7⟩⟩ := hrb.olds
          have y0 := hrb.go 0
          have y1 := hrb.go 1
          have y2 := hrb.go 2
          have y3 := hrb.go 3
          have y4 := hrb.go 4
          have y5 := hrb.go 5
          have y6 := hrb.go 6
          have y7 := hrb.go 7
          clear hrb
          go_wp2_with fail
          refine bodyPost_ret (res_results rfl _ _ R 35 0 (.slice none 0 0) (.slice none 0 0) rfl ((HRb.out wn HXn.out).put 35 0 (.slice none 0 0) (.slice none 0 0))) rfl ?_
          have HF1 : Ending.returned (resv 35 0 (.slice none 0 0) (.slice none 0 0)) = Ending.returned (resv (M.txn m ⟨o0, (x : Int), o2, o3, o4, o5, o6, o7, o8, o9, kk⟩).1.e (M.txn m ⟨o0, (x : Int), o2, o3, o4, o5, o6, o7, o8, o9, kk⟩).1.n (.slice none 0 0) (.slice none 0 0)) := by rw [HRES.out] <;> rfl
          have HF2 : Left G w (rbw wn R 35 0 (.slice none 0 0) (.slice none 0 0)) B n vn vu vq vg X X (M.txn m ⟨o0, (x : Int), o2, o3, o4, o5, o6, o7, o8, o9, kk⟩).2 := by
            rw [HRES.out]
            exact Left.res1 HLT.out HXG.out HMn.out (Ex.trans (Ex.of_below HE.out.b) HXn.out) (Nat.le_of_lt HR2.out) rfl 35 0 (.slice none 0 0) (.slice none 0 0)
          unfold MutPost
          exact ⟨_, HF1, HF2⟩
end Go.Proofs.YtmapmeacjpoaoaaDoor
