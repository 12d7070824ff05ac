/- What the model's crash does. Drawn regions in phases, with loud operations of two kinds: one kind changes less than the other. No program. -/
import Derived.Test.YtmapmeacjpoaoaaDoorPm16
namespace Go.Proofs.YtmapmeacjpoaoaaDoor
open Go Go.RowKit

theorem infoI : (Tryd.prog.info? 3).map (fun i => (i.zero, i.size, i.bytes)) = some (some (.int .i64 0), 1, 8) := by kernel_rfl
/-- The model after a crash: a row of its own anew, the snapshots gone. -/
theorem crash_left {G : Nat → Prop} {w w2 wn : World} {B n R Q b : Nat} {vn vu vq vg : Value} {X : Mv} {ls us : List Value} {ps : List (Value × List Value)} {vs : Value} {m' : St} (hw : ∀ k, G k → k < w.heap.size) (hXG : ∀ k, X.foot B k → G k)
    (hM : Mem (fun k => ((G k ∨ k = R) ∨ ((.slice none 0 0) : Value).ownBlock = some k) ∨ k = b) wn B n vn vu vq vg { X with ls := ls, vs := vs, us := us, vp := (.slice none 0 0), ps := ps, bH := b } m') (hx : Ex (X.foot B) w wn) (_hQ : Q < w2.heap.size) (hR2 : R < w2.heap.size) (hR : w.heap.size < R) (hb : w2.heap.size ≤ b) (e n1 : Int) (vr vc : Value) :
    Left G w (rbw wn R e n1 vr vc) B n vn vu vq vg X { X with ls := ls, vs := vs, us := us, vp := (.slice none 0 0), ps := ps, bH := b } m' := by
  refine Left.res hw hXG (hM.narrow ?_ ?_) hx (Nat.le_of_lt hR) ?_ e n1 vr vc
  · rintro k ((hk | hk) | hk)
    · exact .inl (.inl (.inl hk))
    · unfold Mv.foot at hk
      simp only [] at hk
      rcases hk with hk | hk | hk | hk | hk | hk
      · exact .inl (.inl (.inl (hXG k (by unfold Mv.foot; simp [hk]))))
      · exact .inl (.inl (.inl (hXG k (by unfold Mv.foot; simp [hk]))))
      · exact .inl (.inl (.inl (hXG k (by unfold Mv.foot; simp [hk]))))
      · exact .inr hk
      · exact .inl (.inl (.inl (hXG k (by unfold Mv.foot; simp [hk]))))
      · simp [Value.ownBlock] at hk
    · exact .inl (.inl (.inr hk))
  · exact fun k hk => .inl (.inr hk)
  · intro k hk
    unfold Mv.foot at hk
    simp only [] at hk
    rcases hk with hk | hk | hk | hk | hk | hk
    · exact .inl (by unfold Mv.foot; simp [hk])
    · exact .inl (by unfold Mv.foot; simp [hk])
    · exact .inl (by unfold Mv.foot; simp [hk])
    · exact .inr (by omega)
    · exact .inl (by unfold Mv.foot; simp [hk])
    · simp [Value.ownBlock] at hk

set_option maxRecDepth 4000 in
set_option maxHeartbeats 4000000 in
theorem crash_any (G : Nat → Prop) (w : World) (B n : Nat) (vn vu vq vg : Value) (X : Mv) (m : St) (o : Opr) (u : Value) (h : Mem G w B n vn vu vq vg X m) (hn : n < 1000) :
    Calls Tryd.prog 23 #[.pointer (some ⟨B, 0, none⟩), opv (o.put u), .bool false] w (MutPost G w B n vn vu vq vg X (M.crash m o).1 (M.crash m o).2) := by
  have hE := (Ent.box h.mr o u).alloc ((Below.refl _ _).alloc (Nat.le_refl _) (.cells #[.int .i64 0, .int .i64 0, (.slice none 0 0), .int .i64 0, .int .i64 0, .int .i64 0, .int .i64 0, (.slice none 0 0)] 45))
  have hR : Rb ((w.alloc (.cells (opc o u) 33)).alloc (.cells #[.int .i64 0, .int .i64 0, (.slice none 0 0), .int .i64 0, .int .i64 0, .int .i64 0, .int .i64 0, (.slice none 0 0)] 45)) (w.alloc (.cells (opc o u) 33)).heap.size 0 0 (.slice none 0 0) (.slice none 0 0) := heap_alloc_new _ _
  have hR2 : w.heap.size < (w.alloc (.cells (opc o u) 33)).heap.size := by simp
  have hR3 : (w.alloc (.cells (opc o u) 33)).heap.size < ((w.alloc (.cells (opc o u) 33)).alloc (.cells #[.int .i64 0, .int .i64 0, (.slice none 0 0), .int .i64 0, .int .i64 0, .int .i64 0, .int .i64 0, (.slice none 0 0)] 45)).heap.size := by simp
  obtain ⟨w2, hw2⟩ : ∃ w2, (w.alloc (.cells (opc o u) 33)).alloc (.cells #[.int .i64 0, .int .i64 0, (.slice none 0 0), .int .i64 0, .int .i64 0, .int .i64 0, .int .i64 0, (.slice none 0 0)] 45) = w2 := ⟨_, rfl⟩
  obtain ⟨R, hRR⟩ : ∃ R, (w.alloc (.cells (opc o u) 33)).heap.size = R := ⟨_, rfl⟩
  have hRQ : w.heap.size + 1 = R := by rw [← hRR]; simp
  obtain ⟨Qo, hQo⟩ : ∃ Qo, w.heap.size = Qo := ⟨_, rfl⟩
  rw [hw2] at hE hR hR3
  rw [hRR] at hR hR2 hR3
  have HE := Lib.hid hE
  have HR2 := Lib.hid hR2
  have HM := Lib.hid (h.wide hE.b (Nat.le_of_lt hR2) hR3)
  have HX : Hid (Ex (X.foot B) w2 w2) := Ex.refl _ _
  have HLT := Lib.hid h.lt
  have HXG := Lib.hid h.g
  have HNE := Lib.hid h.ne
  have HQF : Hid (¬ X.foot B Qo) := fun hf => by
    have := h.lt Qo (h.g Qo hf)
    omega
  have HRb : Hid (∀ W, Ex (X.foot B) w2 W → Rb W R 0 0 (.slice none 0 0) (.slice none 0 0)) := fun W hW => hR.ex hW fun hf => by
    have := h.lt R (h.g R hf)
    omega
  obtain ⟨o0, o1, o2, o3, o4, o5, o6, o7, o8, o9, kk⟩ := o
  have HOP := Lib.hid (fun W (hW : Ex (X.foot B) w2 W) => hE.atx hW (by rw [hQo]; exact HQF.out))
  simp only [] at HOP
  rw [hQo] at HOP
  have HNL := Lib.hid h.b.nL
  have HR3 := Lib.hid hR3
  have hn9 : n < 1000 := hn
  simp only [Op11.put, opc] at hw2 ⊢
  rw [hQo] at hRQ HE
  clear h hE hR hR2 hR3 hRR
  go_enter Tryd.func23, Tryd.ntmps23
  go_wp2_with fail
  clear hw2 hQo hRQ
  obtain ⟨-, p1, p2, -, -, -, -, -, -, -, -⟩ := HOP.out w2 HX.out
  have c4 : w2.cell? ⟨B, 4, none⟩ = some (slv X.bL n) := HM.out.b.cells.c4
  have c6 : w2.cell? ⟨B, 6, none⟩ = some (slv X.bH n) := HM.out.b.cells.c6
  by_cases h1 : 0 < o2
  · by_cases h2 : 0 ≤ o1
    · by_cases h3 : o1 < n
      · obtain ⟨x, rfl⟩ : ∃ x : Nat, o1 = (x : Int) := ⟨o1.toNat, by omega⟩
        have hxn : x < n := by omega
        have HXn := Lib.hid hxn
        have hx0 : (0 : Int) ≤ (x : Int) := by omega
        have hxI : (x : Int) < (n : Int) := by omega
        have hh : w2.cell? ⟨X.bH, x, none⟩ = some (.int .i64 (m.has.getD x 0)) := HM.out.mr.hasAt hxn
        obtain ⟨hx, hhx⟩ : ∃ z, m.has.getD x 0 = z := ⟨_, rfl⟩
        have HHX := Lib.hid hhx
        rw [hhx] at hh
        clear hhx
        by_cases hs : hx = o2
        · have ee : (hx == o2) = true := by simp [hs]
          have ed : decide (hx = o2) = true := by simp [hs]
          have HRES : Hid (M.crash m ⟨o0, (x : Int), o2, o3, o4, o5, o6, o7, o8, o9, kk⟩ = (M.ok, { m with L := m.L.set x (m.dr.getD x []), ses := [], sn := [], has := List.replicate n 0 })) := by
            unfold Hid M.crash
            simp only [HNL.out, Int.toNat_natCast, HHX.out]
            simp [h1, hs, hxn]
          go_wp2_with fail
          go_quiet (fail)
          have HMq := Lib.hid (HM.out.below (below_drewN w2 nq))
          have HXq : Hid (Ex (X.foot B) w2 (w2.drewN nq)) := HX.out.trans (Ex.of_below (below_drewN w2 nq))
          clear HM HX p1 p2
          generalize w2.drewN nq = w3 at *
          have HM := HMq
          have HX := HXq
          clear HMq HXq
          go_wp2_with fail
          refine Two.Ph.wp_region_mix3 Two.Ph.eq_grow (ex_grow' (fun k => k = X.bL)) (fun _ _ h => h ▸ Ex.refl _ _) [15] [(0, 2), (1, 2), (2, 2), (3, 2), (4, 2), (5, 2), (6, 2), (7, 2), (8, 2), (9, 2), (10, 2), (11, 2), (12, 2), (13, 2), (14, 2), (15, 1)] (by kernel_rfl) (by kernel_rfl) ?_
          have HMq := Lib.hid (HM.out.below (Below.drew (Below.refl _ _)))
          have HXq : Hid (Ex (X.foot B) w2 w3.drew) := HX.out.trans (Ex.of_below (Below.drew (Below.refl _ _)))
          clear HM HX
          generalize w3.drew = wd at *
          have HM := HMq
          have HX := HXq
          clear HMq HXq
          have c4 : wd.cell? ⟨B, 4, none⟩ = some (slv X.bL n) := HM.out.b.cells.c4
          have c7 : wd.cell? ⟨B, 7, none⟩ = some (slv X.bD n) := HM.out.b.cells.c7
          obtain ⟨-, p1, -, -, -, -, -, -, -, -, -⟩ := HOP.out wd HX.out
          obtain ⟨sa, sc, hsc, hsf⟩ := HM.out.fzD HXn.out
          have HSF := Lib.hid hsf
          clear hsf
          obtain ⟨SL, hSL⟩ : ∃ l, (m.dr.getD x []) = l := ⟨_, rfl⟩
          try simp only [] at hsc HSF
          rw [hSL] at hsc HSF
          obtain ⟨SN, hSN⟩ : ∃ k, SL.length = k := ⟨_, rfl⟩
          rw [hSN] at hsc HSF
          clear hSN
          obtain ⟨⟨q8, hq8⟩, hf8⟩ := own_go1 HM.out.b.oL HXn.out
          repeat ((first | refine Two.Ph.mix3_soft rfl (fun K hK => ?_) | refine Two.Ph.mix3_soon rfl (fun K hK => ?_)); go_simp; (first | (refine hK _ ?_; clear hK K) | (apply Exists.intro; refine ⟨fun z => ?_, hK _ ?_⟩; (first | done); clear hK K)))
          refine Two.Ph.mix3_loud rfl (fun K hK => ?_)
          go_simp
          refine ⟨Ex.setCell (G := fun k => k = X.bL) _ _ _ rfl _, hK _ _ ?_⟩
          clear hK K
          refine Two.Ph.mix3_done fun w9 h9 => ?_
          subst h9
          have HMq := Lib.hid (HM.out.setL x (.slice sa SN sc) SL HSF.out)
          have HXq : Hid (Ex (X.foot B) w2 (wd.setCell ⟨X.bL, x, none⟩ (.slice sa SN sc))) := HX.out.trans (Ex.setCell wd _ _ (by unfold Mv.foot; simp) _)
          clear HM HX hq8 hf8
          obtain ⟨w10, hw9⟩ : ∃ w9, wd.setCell ⟨X.bL, x, none⟩ (.slice sa SN sc) = w9 := ⟨_, rfl⟩
          rw [hw9] at HMq HXq ⊢
          clear hw9
          have HM := HMq
          have HX := HXq
          clear HMq HXq
          rw [hSL] at HRES
          have c8 := HM.out.b.cells.c8
          have f8 := HM.out.b.free 8
          have HM4 := Lib.hid (HM.out.setS (.slice none 0 0) [] [] (fun W _ => Sv.nil W))
          have HX4 : Hid (Ex (X.foot B) w2 (w10.setCell ⟨B, 8, none⟩ (.slice none 0 0))) := HX.out.trans (Ex.setCell w10 B 8 (by unfold Mv.foot; simp) _)
          have c9 := HM4.out.b.cells.c9
          have f9 := HM4.out.b.free 9
          have HM5 := Lib.hid (HM4.out.setP (World.grownBy.refl _ _) (.slice none 0 0) [] [] (World.ownsRow_nil _ _ _ _) rfl (.inr (fun k hk => by simp [Value.ownBlock] at hk)) (fun W _ i h => by simp at h))
          have HX5 : Hid (Ex (X.foot B) w2 ((w10.setCell ⟨B, 8, none⟩ (.slice none 0 0)).setCell ⟨B, 9, none⟩ (.slice none 0 0))) := HX4.out.trans (Ex.setCell (w10.setCell ⟨B, 8, none⟩ (.slice none 0 0)) B 9 (by unfold Mv.foot; simp) _)
          clear HM HX HM4 HX4
          have c4 : ((w10.setCell ⟨B, 8, none⟩ (.slice none 0 0)).setCell ⟨B, 9, none⟩ (.slice none 0 0)).cell? ⟨B, 4, none⟩ = some (slv X.bL n) := HM5.out.b.cells.c4
          go_wp2_with (at_make; go_must (refine wpList_make_sl rfl _ _ 24 rfl 0 3 (.int .i64 0) 1 8 Tryd.underlying24 infoI .i64 .i64 n rfl rfl (by omega) (by unfold maxLen; omega) (Nat.zero_le _) ?_))
          intro w7 hown hg7
          clear c8 f8 c9 f9 c4
          have hsz : ((w10.setCell ⟨B, 8, none⟩ (.slice none 0 0)).setCell ⟨B, 9, none⟩ (.slice none 0 0)).heap.size = w10.heap.size := by simp [World.setCell]
          obtain ⟨b6, hb6⟩ : ∃ b, w10.heap.size = b := ⟨_, rfl⟩
          rw [hb6] at hown hsz ⊢
          obtain ⟨w6, hw6⟩ : ∃ w6, ((w10.setCell ⟨B, 8, none⟩ (.slice none 0 0)).setCell ⟨B, 9, none⟩ (.slice none 0 0)) = w6 := ⟨_, rfl⟩
          rw [hw6] at HM5 HX5 hg7 hsz
          have HMq := HM5
          have HXq := HX5
          have hb7 : Below w6.heap.size w6 w7 := (Below.refl _ _).grown hg7 (Nat.le_refl _) (by simp)
          have hlt7 : b6 < w7.heap.size := own_lt hown b6 rfl
          rw [made_one] at hown
          have hown2 : w7.ownsRow 0 3 1 (slv b6 n) n (intsV (List.replicate n 0)) := by
            have e : intsV (List.replicate n 0) = List.replicate n (.int .i64 0) := by simp [intsV]
            rw [e]
            exact hown
          have HW7 := Lib.hid (HMq.out.wide hb7 (Nat.le_of_eq hsz) hlt7)
          have c6 := HW7.out.b.cells.c6
          have f6 := HW7.out.b.free 6
          have HM8 := Lib.hid (HW7.out.setBH b6 (List.replicate n 0) hown2 (by simp) (.inr rfl))
          have HX7 : Hid (Ex (X.foot B) w2 w7) := HXq.out.trans (Ex.of_below hb7)
          have HX8 : Hid (Ex (X.foot B) w2 (w7.setCell ⟨B, 6, none⟩ (slv b6 n))) := HX7.out.trans (Ex.setCell w7 B 6 (by unfold Mv.foot; simp) _)
          have HSZ : Hid (w2.heap.size ≤ b6) := hsz ▸ HXq.out.size
          clear hown hown2 hg7 hb7 hlt7 HW7 HX7 HMq HXq HM5 HX5 hb6 hsz hw6
          have hrb := HRb.out (w7.setCell ⟨B, 6, none⟩ (slv b6 n)) HX8.out
          obtain ⟨⟨v0, z0⟩, ⟨v1, z1⟩, ⟨v2, z2⟩, ⟨v3, z3⟩, ⟨v4, z4⟩, ⟨v5, z5⟩, ⟨v6, z6⟩, ⟨v7, z7⟩⟩ := hrb.olds
          have y0 := hrb.go 0
          have y1 := hrb.go 1
          have y2 := hrb.go 2
          have y3 := hrb.go 3
          have y4 := hrb.go 4
          have y5 := hrb.go 5
          have y6 := hrb.go 6
          have y7 := hrb.go 7
          clear hrb
          go_wp2_with fail
          refine bodyPost_ret (res_results rfl _ _ R 0 0 (.slice none 0 0) (.slice none 0 0) rfl ((HRb.out (w7.setCell ⟨B, 6, none⟩ (slv b6 n)) HX8.out).put 0 0 (.slice none 0 0) (.slice none 0 0))) rfl ?_
          have HF1 : Ending.returned (resv 0 0 (.slice none 0 0) (.slice none 0 0)) = Ending.returned (resv (M.crash m ⟨o0, (x : Int), o2, o3, o4, o5, o6, o7, o8, o9, kk⟩).1.e (M.crash m ⟨o0, (x : Int), o2, o3, o4, o5, o6, o7, o8, o9, kk⟩).1.n (.slice none 0 0) (.slice none 0 0)) := by rw [HRES.out] <;> rfl
          have HF2 : Left G w (rbw (w7.setCell ⟨B, 6, none⟩ (slv b6 n)) R 0 0 (.slice none 0 0) (.slice none 0 0)) B n vn vu vq vg X { X with ls := X.ls.set x (.slice sa SN sc), vs := (.slice none 0 0), us := [], vp := (.slice none 0 0), ps := [], bH := b6 } (M.crash m ⟨o0, (x : Int), o2, o3, o4, o5, o6, o7, o8, o9, kk⟩).2 := by
            rw [HRES.out]
            exact crash_left HLT.out HXG.out HM8.out (Ex.trans (Ex.of_below HE.out.b) HX8.out) HE.out.lo HR3.out HR2.out HSZ.out _ _ _ _
          unfold MutPost
          exact ⟨_, HF1, HF2⟩
        · have ee : (hx == o2) = false := by simp [hs]
          have ed : decide (hx = o2) = false := by simp [hs]
          have HRES : Hid (M.crash m ⟨o0, (x : Int), o2, o3, o4, o5, o6, o7, o8, o9, kk⟩ = (M.ok, { m with ses := [], sn := [], has := List.replicate n 0 })) := by
            unfold Hid M.crash
            simp only [HNL.out, Int.toNat_natCast, HHX.out]
            simp [hs]
          go_wp2_with fail
          go_quiet (fail)
          have HMq := Lib.hid (HM.out.below (below_drewN w2 nq))
          have HXq : Hid (Ex (X.foot B) w2 (w2.drewN nq)) := HX.out.trans (Ex.of_below (below_drewN w2 nq))
          clear HM HX p1 p2
          generalize w2.drewN nq = w3 at *
          have HM := HMq
          have HX := HXq
          clear HMq HXq
          have c8 := HM.out.b.cells.c8
          have f8 := HM.out.b.free 8
          have HM4 := Lib.hid (HM.out.setS (.slice none 0 0) [] [] (fun W _ => Sv.nil W))
          have HX4 : Hid (Ex (X.foot B) w2 (w3.setCell ⟨B, 8, none⟩ (.slice none 0 0))) := HX.out.trans (Ex.setCell w3 B 8 (by unfold Mv.foot; simp) _)
          have c9 := HM4.out.b.cells.c9
          have f9 := HM4.out.b.free 9
          have HM5 := Lib.hid (HM4.out.setP (World.grownBy.refl _ _) (.slice none 0 0) [] [] (World.ownsRow_nil _ _ _ _) rfl (.inr (fun k hk => by simp [Value.ownBlock] at hk)) (fun W _ i h => by simp at h))
          have HX5 : Hid (Ex (X.foot B) w2 ((w3.setCell ⟨B, 8, none⟩ (.slice none 0 0)).setCell ⟨B, 9, none⟩ (.slice none 0 0))) := HX4.out.trans (Ex.setCell (w3.setCell ⟨B, 8, none⟩ (.slice none 0 0)) B 9 (by unfold Mv.foot; simp) _)
          clear HM HX HM4 HX4
          have c4 : ((w3.setCell ⟨B, 8, none⟩ (.slice none 0 0)).setCell ⟨B, 9, none⟩ (.slice none 0 0)).cell? ⟨B, 4, none⟩ = some (slv X.bL n) := HM5.out.b.cells.c4
          go_wp2_with (at_make; go_must (refine wpList_make_sl rfl _ _ 24 rfl 0 3 (.int .i64 0) 1 8 Tryd.underlying24 infoI .i64 .i64 n rfl rfl (by omega) (by unfold maxLen; omega) (Nat.zero_le _) ?_))
          intro w7 hown hg7
          clear c8 f8 c9 f9 c4
          have hsz : ((w3.setCell ⟨B, 8, none⟩ (.slice none 0 0)).setCell ⟨B, 9, none⟩ (.slice none 0 0)).heap.size = w3.heap.size := by simp [World.setCell]
          obtain ⟨b6, hb6⟩ : ∃ b, w3.heap.size = b := ⟨_, rfl⟩
          rw [hb6] at hown hsz ⊢
          obtain ⟨w6, hw6⟩ : ∃ w6, ((w3.setCell ⟨B, 8, none⟩ (.slice none 0 0)).setCell ⟨B, 9, none⟩ (.slice none 0 0)) = w6 := ⟨_, rfl⟩
          rw [hw6] at HM5 HX5 hg7 hsz
          have HMq := HM5
          have HXq := HX5
          have hb7 : Below w6.heap.size w6 w7 := (Below.refl _ _).grown hg7 (Nat.le_refl _) (by simp)
          have hlt7 : b6 < w7.heap.size := own_lt hown b6 rfl
          rw [made_one] at hown
          have hown2 : w7.ownsRow 0 3 1 (slv b6 n) n (intsV (List.replicate n 0)) := by
            have e : intsV (List.replicate n 0) = List.replicate n (.int .i64 0) := by simp [intsV]
            rw [e]
            exact hown
          have HW7 := Lib.hid (HMq.out.wide hb7 (Nat.le_of_eq hsz) hlt7)
          have c6 := HW7.out.b.cells.c6
          have f6 := HW7.out.b.free 6
          have HM8 := Lib.hid (HW7.out.setBH b6 (List.replicate n 0) hown2 (by simp) (.inr rfl))
          have HX7 : Hid (Ex (X.foot B) w2 w7) := HXq.out.trans (Ex.of_below hb7)
          have HX8 : Hid (Ex (X.foot B) w2 (w7.setCell ⟨B, 6, none⟩ (slv b6 n))) := HX7.out.trans (Ex.setCell w7 B 6 (by unfold Mv.foot; simp) _)
          have HSZ : Hid (w2.heap.size ≤ b6) := hsz ▸ HXq.out.size
          clear hown hown2 hg7 hb7 hlt7 HW7 HX7 HMq HXq HM5 HX5 hb6 hsz hw6
          have hrb := HRb.out (w7.setCell ⟨B, 6, none⟩ (slv b6 n)) HX8.out
          obtain ⟨⟨v0, z0⟩, ⟨v1, z1⟩, ⟨v2, z2⟩, ⟨v3, z3⟩, ⟨v4, z4⟩, ⟨v5, z5⟩, ⟨v6, z6⟩, ⟨v7, z7⟩⟩ := hrb.olds
          have y0 := hrb.go 0
          have y1 := hrb.go 1
          have y2 := hrb.go 2
          have y3 := hrb.go 3
          have y4 := hrb.go 4
          have y5 := hrb.go 5
          have y6 := hrb.go 6
          have y7 := hrb.go 7
          clear hrb
          go_wp2_with fail
          refine bodyPost_ret (res_results rfl _ _ R 0 0 (.slice none 0 0) (.slice none 0 0) rfl ((HRb.out (w7.setCell ⟨B, 6, none⟩ (slv b6 n)) HX8.out).put 0 0 (.slice none 0 0) (.slice none 0 0))) rfl ?_
          have HF1 : Ending.returned (resv 0 0 (.slice none 0 0) (.slice none 0 0)) = Ending.returned (resv (M.crash m ⟨o0, (x : Int), o2, o3, o4, o5, o6, o7, o8, o9, kk⟩).1.e (M.crash m ⟨o0, (x : Int), o2, o3, o4, o5, o6, o7, o8, o9, kk⟩).1.n (.slice none 0 0) (.slice none 0 0)) := by rw [HRES.out] <;> rfl
          have HF2 : Left G w (rbw (w7.setCell ⟨B, 6, none⟩ (slv b6 n)) R 0 0 (.slice none 0 0) (.slice none 0 0)) B n vn vu vq vg X { X with ls := X.ls, vs := (.slice none 0 0), us := [], vp := (.slice none 0 0), ps := [], bH := b6 } (M.crash m ⟨o0, (x : Int), o2, o3, o4, o5, o6, o7, o8, o9, kk⟩).2 := by
            rw [HRES.out]
            exact crash_left HLT.out HXG.out HM8.out (Ex.trans (Ex.of_below HE.out.b) HX8.out) HE.out.lo HR3.out HR2.out HSZ.out _ _ _ _
          unfold MutPost
          exact ⟨_, HF1, HF2⟩
      · have d3 : decide (o1 < (n : Int)) = false := by simp; omega
        have HRES : Hid (M.crash m ⟨o0, o1, o2, o3, o4, o5, o6, o7, o8, o9, kk⟩ = (M.ok, { m with ses := [], sn := [], has := List.replicate n 0 })) := by
          unfold Hid M.crash
          simp only [HNL.out]
          simp [h3]
        go_wp2_with fail
        go_quiet (fail)
        have HMq := Lib.hid (HM.out.below (below_drewN w2 nq))
        have HXq : Hid (Ex (X.foot B) w2 (w2.drewN nq)) := HX.out.trans (Ex.of_below (below_drewN w2 nq))
        clear HM HX p1 p2
        generalize w2.drewN nq = w3 at *
        have HM := HMq
        have HX := HXq
        clear HMq HXq
        have c8 := HM.out.b.cells.c8
        have f8 := HM.out.b.free 8
        have HM4 := Lib.hid (HM.out.setS (.slice none 0 0) [] [] (fun W _ => Sv.nil W))
        have HX4 : Hid (Ex (X.foot B) w2 (w3.setCell ⟨B, 8, none⟩ (.slice none 0 0))) := HX.out.trans (Ex.setCell w3 B 8 (by unfold Mv.foot; simp) _)
        have c9 := HM4.out.b.cells.c9
        have f9 := HM4.out.b.free 9
        have HM5 := Lib.hid (HM4.out.setP (World.grownBy.refl _ _) (.slice none 0 0) [] [] (World.ownsRow_nil _ _ _ _) rfl (.inr (fun k hk => by simp [Value.ownBlock] at hk)) (fun W _ i h => by simp at h))
        have HX5 : Hid (Ex (X.foot B) w2 ((w3.setCell ⟨B, 8, none⟩ (.slice none 0 0)).setCell ⟨B, 9, none⟩ (.slice none 0 0))) := HX4.out.trans (Ex.setCell (w3.setCell ⟨B, 8, none⟩ (.slice none 0 0)) B 9 (by unfold Mv.foot; simp) _)
        clear HM HX HM4 HX4
        have c4 : ((w3.setCell ⟨B, 8, none⟩ (.slice none 0 0)).setCell ⟨B, 9, none⟩ (.slice none 0 0)).cell? ⟨B, 4, none⟩ = some (slv X.bL n) := HM5.out.b.cells.c4
        go_wp2_with (at_make; go_must (refine wpList_make_sl rfl _ _ 24 rfl 0 3 (.int .i64 0) 1 8 Tryd.underlying24 infoI .i64 .i64 n rfl rfl (by omega) (by unfold maxLen; omega) (Nat.zero_le _) ?_))
        intro w7 hown hg7
        clear c8 f8 c9 f9 c4
        have hsz : ((w3.setCell ⟨B, 8, none⟩ (.slice none 0 0)).setCell ⟨B, 9, none⟩ (.slice none 0 0)).heap.size = w3.heap.size := by simp [World.setCell]
        obtain ⟨b6, hb6⟩ : ∃ b, w3.heap.size = b := ⟨_, rfl⟩
        rw [hb6] at hown hsz ⊢
        obtain ⟨w6, hw6⟩ : ∃ w6, ((w3.setCell ⟨B, 8, none⟩ (.slice none 0 0)).setCell ⟨B, 9, none⟩ (.slice none 0 0)) = w6 := ⟨_, rfl⟩
        rw [hw6] at HM5 HX5 hg7 hsz
        have HMq := HM5
        have HXq := HX5
        have hb7 : Below w6.heap.size w6 w7 := (Below.refl _ _).grown hg7 (Nat.le_refl _) (by simp)
        have hlt7 : b6 < w7.heap.size := own_lt hown b6 rfl
        rw [made_one] at hown
        have hown2 : w7.ownsRow 0 3 1 (slv b6 n) n (intsV (List.replicate n 0)) := by
          have e : intsV (List.replicate n 0) = List.replicate n (.int .i64 0) := by simp [intsV]
          rw [e]
          exact hown
        have HW7 := Lib.hid (HMq.out.wide hb7 (Nat.le_of_eq hsz) hlt7)
        have c6 := HW7.out.b.cells.c6
        have f6 := HW7.out.b.free 6
        have HM8 := Lib.hid (HW7.out.setBH b6 (List.replicate n 0) hown2 (by simp) (.inr rfl))
        have HX7 : Hid (Ex (X.foot B) w2 w7) := HXq.out.trans (Ex.of_below hb7)
        have HX8 : Hid (Ex (X.foot B) w2 (w7.setCell ⟨B, 6, none⟩ (slv b6 n))) := HX7.out.trans (Ex.setCell w7 B 6 (by unfold Mv.foot; simp) _)
        have HSZ : Hid (w2.heap.size ≤ b6) := hsz ▸ HXq.out.size
        clear hown hown2 hg7 hb7 hlt7 HW7 HX7 HMq HXq HM5 HX5 hb6 hsz hw6
        have hrb := HRb.out (w7.setCell ⟨B, 6, none⟩ (slv b6 n)) HX8.out
        obtain ⟨⟨v0, z0⟩, ⟨v1, z1⟩, ⟨v2, z2⟩, ⟨v3, z3⟩, ⟨v4, z4⟩, ⟨v5, z5⟩, ⟨v6, z6⟩, ⟨v7, z7⟩⟩ := hrb.olds
        have y0 := hrb.go 0
        have y1 := hrb.go 1
        have y2 := hrb.go 2
        have y3 := hrb.go 3
        have y4 := hrb.go 4
        have y5 := hrb.go 5
        have y6 := hrb.go 6
        have y7 := hrb.go 7
        clear hrb
        go_wp2_with fail
        refine bodyPost_ret (res_results rfl _ _ R 0 0 (.slice none 0 0) (.slice none 0 0) rfl ((HRb.out (w7.setCell ⟨B, 6, none⟩ (slv b6 n)) HX8.out).put 0 0 (.slice none 0 0) (.slice none 0 0))) rfl ?_
        have HF1 : Ending.returned (resv 0 0 (.slice none 0 0) (.slice none 0 0)) = Ending.returned (resv (M.crash m ⟨o0, o1, o2, o3, o4, o5, o6, o7, o8, o9, kk⟩).1.e (M.crash m ⟨o0, o1, o2, o3, o4, o5, o6, o7, o8, o9, kk⟩).1.n (.slice none 0 0) (.slice none 0 0)) := by rw [HRES.out] <;> rfl
        have HF2 : Left G w (rbw (w7.setCell ⟨B, 6, none⟩ (slv b6 n)) R 0 0 (.slice none 0 0) (.slice none 0 0)) B n vn vu vq vg X { X with ls := X.ls, vs := (.slice none 0 0), us := [], vp := (.slice none 0 0), ps := [], bH := b6 } (M.crash m ⟨o0, o1, o2, o3, o4, o5, o6, o7, o8, o9, kk⟩).2 := by
          rw [HRES.out]
          exact crash_left HLT.out HXG.out HM8.out (Ex.trans (Ex.of_below HE.out.b) HX8.out) HE.out.lo HR3.out HR2.out HSZ.out _ _ _ _
        unfold MutPost
        exact ⟨_, HF1, HF2⟩
    · have d2 : decide (0 ≤ o1) = false := by simp [h2]
      have HRES : Hid (M.crash m ⟨o0, o1, o2, o3, o4, o5, o6, o7, o8, o9, kk⟩ = (M.ok, { m with ses := [], sn := [], has := List.replicate n 0 })) := by
        unfold Hid M.crash
        simp only [HNL.out]
        simp [h2]
      go_wp2_with fail
      go_quiet (fail)
      have HMq := Lib.hid (HM.out.below (below_drewN w2 nq))
      have HXq : Hid (Ex (X.foot B) w2 (w2.drewN nq)) := HX.out.trans (Ex.of_below (below_drewN w2 nq))
      clear HM HX p1 p2
      generalize w2.drewN nq = w3 at *
      have HM := HMq
      have HX := HXq
      clear HMq HXq
      have c8 := HM.out.b.cells.c8
      have f8 := HM.out.b.free 8
      have HM4 := Lib.hid (HM.out.setS (.slice none 0 0) [] [] (fun W _ => Sv.nil W))
      have HX4 : Hid (Ex (X.foot B) w2 (w3.setCell ⟨B, 8, none⟩ (.slice none 0 0))) := HX.out.trans (Ex.setCell w3 B 8 (by unfold Mv.foot; simp) _)
      have c9 := HM4.out.b.cells.c9
      have f9 := HM4.out.b.free 9
      have HM5 := Lib.hid (HM4.out.setP (World.grownBy.refl _ _) (.slice none 0 0) [] [] (World.ownsRow_nil _ _ _ _) rfl (.inr (fun k hk => by simp [Value.ownBlock] at hk)) (fun W _ i h => by simp at h))
      have HX5 : Hid (Ex (X.foot B) w2 ((w3.setCell ⟨B, 8, none⟩ (.slice none 0 0)).setCell ⟨B, 9, none⟩ (.slice none 0 0))) := HX4.out.trans (Ex.setCell (w3.setCell ⟨B, 8, none⟩ (.slice none 0 0)) B 9 (by unfold Mv.foot; simp) _)
      clear HM HX HM4 HX4
      have c4 : ((w3.setCell ⟨B, 8, none⟩ (.slice none 0 0)).setCell ⟨B, 9, none⟩ (.slice none 0 0)).cell? ⟨B, 4, none⟩ = some (slv X.bL n) := HM5.out.b.cells.c4
      go_wp2_with (at_make; go_must (refine wpList_make_sl rfl _ _ 24 rfl 0 3 (.int .i64 0) 1 8 Tryd.underlying24 infoI .i64 .i64 n rfl rfl (by omega) (by unfold maxLen; omega) (Nat.zero_le _) ?_))
      intro w7 hown hg7
      clear c8 f8 c9 f9 c4
      have hsz : ((w3.setCell ⟨B, 8, none⟩ (.slice none 0 0)).setCell ⟨B, 9, none⟩ (.slice none 0 0)).heap.size = w3.heap.size := by simp [World.setCell]
      obtain ⟨b6, hb6⟩ : ∃ b, w3.heap.size = b := ⟨_, rfl⟩
      rw [hb6] at hown hsz ⊢
      obtain ⟨w6, hw6⟩ : ∃ w6, ((w3.setCell ⟨B, 8, none⟩ (.slice none 0 0)).setCell ⟨B, 9, none⟩ (.slice none 0 0)) = w6 := ⟨_, rfl⟩
      rw [hw6] at HM5 HX5 hg7 hsz
      have HMq := HM5
      have HXq := HX5
      have hb7 : Below w6.heap.size w6 w7 := (Below.refl _ _).grown hg7 (Nat.le_refl _) (by simp)
      have hlt7 : b6 < w7.heap.size := own_lt hown b6 rfl
      rw [made_one] at hown
      have hown2 : w7.ownsRow 0 3 1 (slv b6 n) n (intsV (List.replicate n 0)) := by
        have e : intsV (List.replicate n 0) = List.replicate n (.int .i64 0) := by simp [intsV]
        rw [e]
        exact hown
      have HW7 := Lib.hid (HMq.out.wide hb7 (Nat.le_of_eq hsz) hlt7)
      have c6 := HW7.out.b.cells.c6
      have f6 := HW7.out.b.free 6
      have HM8 := Lib.hid (HW7.out.setBH b6 (List.replicate n 0) hown2 (by simp) (.inr rfl))
      have HX7 : Hid (Ex (X.foot B) w2 w7) := HXq.out.trans (Ex.of_below hb7)
      have HX8 : Hid (Ex (X.foot B) w2 (w7.setCell ⟨B, 6, none⟩ (slv b6 n))) := HX7.out.trans (Ex.setCell w7 B 6 (by unfold Mv.foot; simp) _)
      have HSZ : Hid (w2.heap.size ≤ b6) := hsz ▸ HXq.out.size
      clear hown hown2 hg7 hb7 hlt7 HW7 HX7 HMq HXq HM5 HX5 hb6 hsz hw6
      have hrb := HRb.out (w7.setCell ⟨B, 6, none⟩ (slv b6 n)) HX8.out
      obtain ⟨⟨v0, z0⟩, ⟨v1, z1⟩, ⟨v2, z2⟩, ⟨v3, z3⟩, ⟨v4, z4⟩, ⟨v5, z5⟩, ⟨v6, z6⟩, ⟨v7, z7⟩⟩ := hrb.olds
      have y0 := hrb.go 0
      have y1 := hrb.go 1
      have y2 := hrb.go 2
      have y3 := hrb.go 3
      have y4 := hrb.go 4
      have y5 := hrb.go 5
      have y6 := hrb.go 6
      have y7 := hrb.go 7
      clear hrb
      go_wp2_with fail
      refine bodyPost_ret (res_results rfl _ _ R 0 0 (.slice none 0 0) (.slice none 0 0) rfl ((HRb.out (w7.setCell ⟨B, 6, none⟩ (slv b6 n)) HX8.out).put 0 0 (.slice none 0 0) (.slice none 0 0))) rfl ?_
      have HF1 : Ending.returned (resv 0 0 (.slice none 0 0) (.slice none 0 0)) = Ending.returned (resv (M.crash m ⟨o0, o1, o2, o3, o4, o5, o6, o7, o8, o9, kk⟩).1.e (M.crash m ⟨o0, o1, o2, o3, o4, o5, o6, o7, o8, o9, kk⟩).1.n (.slice none 0 0) (.slice none 0 0)) := by rw [HRES.out] <;> rfl
      have HF2 : Left G w (rbw (w7.setCell ⟨B, 6, none⟩ (slv b6 n)) R 0 0 (.slice none 0 0) (.slice none 0 0)) B n vn vu vq vg X { X with ls := X.ls, vs := (.slice none 0 0), us := [], vp := (.slice none 0 0), ps := [], bH := b6 } (M.crash m ⟨o0, o1, o2, o3, o4, o5, o6, o7, o8, o9, kk⟩).2 := by
        rw [HRES.out]
        exact crash_left HLT.out HXG.out HM8.out (Ex.trans (Ex.of_below HE.out.b) HX8.out) HE.out.lo HR3.out HR2.out HSZ.out _ _ _ _
      unfold MutPost
      exact ⟨_, HF1, HF2⟩
  · have d1 : decide (0 < o2) = false := by simp [h1]
    have HRES : Hid (M.crash m ⟨o0, o1, o2, o3, o4, o5, o6, o7, o8, o9, kk⟩ = (M.ok, { m with ses := [], sn := [], has := List.replicate n 0 })) := by
      unfold Hid M.crash
      simp only [HNL.out]
      simp [h1]
    go_wp2_with fail
    go_quiet (fail)
    have HMq := Lib.hid (HM.out.below (below_drewN w2 nq))
    have HXq : Hid (Ex (X.foot B) w2 (w2.drewN nq)) := HX.out.trans (Ex.of_below (below_drewN w2 nq))
    clear HM HX p1 p2
    generalize w2.drewN nq = w3 at *
    have HM := HMq
    have HX := HXq
    clear HMq HXq
    have c8 := HM.out.b.cells.c8
    have f8 := HM.out.b.free 8
    have HM4 := Lib.hid (HM.out.setS (.slice none 0 0) [] [] (fun W _ => Sv.nil W))
    have HX4 : Hid (Ex (X.foot B) w2 (w3.setCell ⟨B, 8, none⟩ (.slice none 0 0))) := HX.out.trans (Ex.setCell w3 B 8 (by unfold Mv.foot; simp) _)
    have c9 := HM4.out.b.cells.c9
    have f9 := HM4.out.b.free 9
    have HM5 := Lib.hid (HM4.out.setP (World.grownBy.refl _ _) (.slice none 0 0) [] [] (World.ownsRow_nil _ _ _ _) rfl (.inr (fun k hk => by simp [Value.ownBlock] at hk)) (fun W _ i h => by simp at h))
    have HX5 : Hid (Ex (X.foot B) w2 ((w3.setCell ⟨B, 8, none⟩ (.slice none 0 0)).setCell ⟨B, 9, none⟩ (.slice none 0 0))) := HX4.out.trans (Ex.setCell (w3.setCell ⟨B, 8, none⟩ (.slice none 0 0)) B 9 (by unfold Mv.foot; simp) _)
    clear HM HX HM4 HX4
    have c4 : ((w3.setCell ⟨B, 8, none⟩ (.slice none 0 0)).setCell ⟨B, 9, none⟩ (.slice none 0 0)).cell? ⟨B, 4, none⟩ = some (slv X.bL n) := HM5.out.b.cells.c4
    go_wp2_with (at_make; go_must (refine wpList_make_sl rfl _ _ 24 rfl 0 3 (.int .i64 0) 1 8 Tryd.underlying24 infoI .i64 .i64 n rfl rfl (by omega) (by unfold maxLen; omega) (Nat.zero_le _) ?_))
    intro w7 hown hg7
    clear c8 f8 c9 f9 c4
    have hsz : ((w3.setCell ⟨B, 8, none⟩ (.slice none 0 0)).setCell ⟨B, 9, none⟩ (.slice none 0 0)).heap.size = w3.heap.size := by simp [World.setCell]
    obtain ⟨b6, hb6⟩ : ∃ b, w3.heap.size = b := ⟨_, rfl⟩
    rw [hb6] at hown hsz ⊢
    obtain ⟨w6, hw6⟩ : ∃ w6, ((w3.setCell ⟨B, 8, none⟩ (.slice none 0 0)).setCell ⟨B, 9, none⟩ (.slice none 0 0)) = w6 := ⟨_, rfl⟩
    rw [hw6] at HM5 HX5 hg7 hsz
    have HMq := HM5
    have HXq := HX5
    have hb7 : Below w6.heap.size w6 w7 := (Below.refl _ _).grown hg7 (Nat.le_refl _) (by simp)
    have hlt7 : b6 < w7.heap.size := own_lt hown b6 rfl
    rw [made_one] at hown
    have hown2 : w7.ownsRow 0 3 1 (slv b6 n) n (intsV (List.replicate n 0)) := by
      have e : intsV (List.replicate n 0) = List.replicate n (.int .i64 0) := by simp [intsV]
      rw [e]
      exact hown
    have HW7 := Lib.hid (HMq.out.wide hb7 (Nat.le_of_eq hsz) hlt7)
    have c6 := HW7.out.b.cells.c6
    have f6 := HW7.out.b.free 6
    have HM8 := Lib.hid (HW7.out.setBH b6 (List.replicate n 0) hown2 (by simp) (.inr rfl))
    have HX7 : Hid (Ex (X.foot B) w2 w7) := HXq.out.trans (Ex.of_below hb7)
    have HX8 : Hid (Ex (X.foot B) w2 (w7.setCell ⟨B, 6, none⟩ (slv b6 n))) := HX7.out.trans (Ex.setCell w7 B 6 (by unfold Mv.foot; simp) _)
    have HSZ : Hid (w2.heap.size ≤ b6) := hsz ▸ HXq.out.size
    clear hown hown2 hg7 hb7 hlt7 HW7 HX7 HMq HXq HM5 HX5 hb6 hsz hw6
    have hrb := HRb.out (w7.setCell ⟨B, 6, none⟩ (slv b6 n)) HX8.out
    obtain ⟨⟨v0, z0⟩, ⟨v1, z1⟩, ⟨v2, z2⟩, ⟨v3, z3⟩, ⟨v4, z4⟩, ⟨v5, z5⟩, ⟨v6, z6⟩, ⟨v7, z7⟩⟩ := hrb.olds
    have y0 := hrb.go 0
    have y1 := hrb.go 1
    have y2 := hrb.go 2
    have y3 := hrb.go 3
    have y4 := hrb.go 4
    have y5 := hrb.go 5
    have y6 := hrb.go 6
    have y7 := hrb.go 7
    clear hrb
    go_wp2_with fail
    refine bodyPost_ret (res_results rfl _ _ R 0 0 (.slice none 0 0) (.slice none 0 0) rfl ((HRb.out (w7.setCell ⟨B, 6, none⟩ (slv b6 n)) HX8.out).put 0 0 (.slice none 0 0) (.slice none 0 0))) rfl ?_
    have HF1 : Ending.returned (resv 0 0 (.slice none 0 0) (.slice none 0 0)) = Ending.returned (resv (M.crash m ⟨o0, o1, o2, o3, o4, o5, o6, o7, o8, o9, kk⟩).1.e (M.crash m ⟨o0, o1, o2, o3, o4, o5, o6, o7, o8, o9, kk⟩).1.n (.slice none 0 0) (.slice none 0 0)) := by rw [HRES.out] <;> rfl
    have HF2 : Left G w (rbw (w7.setCell ⟨B, 6, none⟩ (slv b6 n)) R 0 0 (.slice none 0 0) (.slice none 0 0)) B n vn vu vq vg X { X with ls := X.ls, vs := (.slice none 0 0), us := [], vp := (.slice none 0 0), ps := [], bH := b6 } (M.crash m ⟨o0, o1, o2, o3, o4, o5, o6, o7, o8, o9, kk⟩).2 := by
      rw [HRES.out]
      exact crash_left HLT.out HXG.out HM8.out (Ex.trans (Ex.of_below HE.out.b) HX8.out) HE.out.lo HR3.out HR2.out HSZ.out _ _ _ _
    unfold MutPost
    exact ⟨_, HF1, HF2⟩
end Go.Proofs.YtmapmeacjpoaoaaDoor
namespace Go.Proofs.YtmapmeacjpoaoaaDoor.Two.Pq
open Go Go.RowKit
open Go.Proofs.YtmapmeacjpoaoaaDoor.Two Go.Proofs.YtmapmeacjpoaoaaDoor.Two.Ph

section
variable {P : Program} {ops : Array Oper} {md : Region.Mode} {S Z R T : World → World → Prop} {L Lz : List Nat}

/-- What one operation may do. -/
def rel (L Lz : List Nat) (S Z R : World → World → Prop) (i : Nat) : World → World → Prop := fun a b => if Lz.contains i then Z a b else if L.contains i then R a b else S a b
theorem rel_grow (gs : Grow S) (gz : Grow Z) (gr : Grow R) (i : Nat) : Grow (rel L Lz S Z R i) := by
  unfold rel
  by_cases h : Lz.contains i = true
  · simp only [h, if_true]; exact gz
  · by_cases h2 : L.contains i = true
    · simp only [h, h2, if_true]; exact gr
    · simp only [h, h2]; exact gs
theorem rel_soon {i : Nat} (h : L.contains i = false) (hz : Lz.contains i = false) : rel L Lz S Z R i = S := by unfold rel; simp only [h, hz, Bool.false_eq_true, if_false]
theorem rel_z {i : Nat} (h : Lz.contains i = true) : rel L Lz S Z R i = Z := by unfold rel; simp only [h, if_true]
theorem rel_late {i : Nat} (hz : Lz.contains i = false) (h : L.contains i = true) : rel L Lz S Z R i = R := by unfold rel; simp only [h, hz, Bool.false_eq_true, if_false, if_true]

def wpAnyP (L Lz : List Nat) (S Z R : World → World → Prop) (P : Program) (md : Region.Mode) (ops : Array Oper) (Q : Act → World → Prop) : Nat → Array Bool → Act → World → Prop
  | 0, listed, a, w => Region.ready md ops listed = [] ∧ ∀ w', S w w' → Q a w'
  | fuel + 1, listed, a, w =>
    (Region.ready md ops listed = [] → ∀ w', S w w' → Q a w') ∧
    ∀ i ∈ Region.ready md ops listed, ∀ w1, S w w1 → hOp (rel L Lz S Z R i) P ops i (wpAnyP L Lz S Z R P md ops Q fuel (listed.setIfInBounds i true)) a w1

theorem wpAnyP_later (gs : Grow S) {Q : Act → World → Prop} {fuel : Nat} {listed : Array Bool} {a : Act} {w w' : World} (hb : S w w') (h : wpAnyP L Lz S Z R P md ops Q fuel listed a w) : wpAnyP L Lz S Z R P md ops Q fuel listed a w' := by
  cases fuel with
  | zero => exact ⟨h.1, fun w'' h'' => h.2 w'' (gs.trans _ _ _ hb h'')⟩
  | succ fuel => exact ⟨fun h0 w'' h'' => h.1 h0 w'' (gs.trans _ _ _ hb h''), fun i hi w1 h1 => h.2 i hi w1 (gs.trans _ _ _ hb h1)⟩

theorem wpAny_of_P (gs : Grow S) {Q : Act → World → Prop} {Q' : Exit → Act → World → Prop} (hQ : ∀ a w, Q a w → Q' .normal a w) : ∀ (fuel : Nat) (listed : Array Bool) (a : Act) (w : World),
    wpAnyP L Lz S Z R P md ops Q fuel listed a w → wpAny P md ops Q' fuel listed a w
  | 0, _, _, _, h => ⟨h.1, hQ _ _ (h.2 _ (gs.refl _))⟩
  | fuel + 1, _, _, _, h => ⟨fun h0 => hQ _ _ (h.1 h0 _ (gs.refl _)), fun i hi => wpOp_of_hOp (fun a' w' => wpAny_of_P gs hQ fuel _ a' w') (h.2 i hi _ (gs.refl _))⟩

theorem wpAnyP_first (gs : Grow S) (gz : Grow Z) (gr : Grow R) (gt : Grow T) (sub : ∀ a b, S a b → T a b) {Q : Act → World → Prop} {i : Nat} {oi : Oper} {v : Value} (hi : ops[i]? = some oi) (hL : L.contains i = false) (hLz : Lz.contains i = false)
    {f : Nat} (hT : ∀ t, reachB md ops f t i = true ∨ (∀ a b, rel L Lz S Z R t a b → T a b))
    (hsel : ∀ (j : Nat) (o : Oper) cs b, ops[j]? = some o → o.op ≠ .select cs b) :
    ∀ (fuel : Nat) (listed : Array Bool) (a : Act) (W : World), Closed md ops listed →
      (∀ j oj, ops[j]? = some oj → j ≠ i → listed.getD j true = false → (∀ e ∈ oj.after, Region.binds md e = true → e.on ≠ i) → oi.apart ops oj = true) →
      i ∈ Region.ready md ops listed → YieldsE S T P ops W oi v a →
      wpAnyP L Lz S Z R P md ops Q fuel (listed.setIfInBounds i true) (a.put oi.dst v) W → wpAnyP L Lz S Z R P md ops Q (fuel + 1) listed a W := by
  intro fuel
  induction fuel with
  | zero =>
    intro listed a W _ _ hr hy H
    refine ⟨fun h => (by rw [h] at hr; cases hr), fun j hj w1 hb => ?_⟩
    by_cases hji : j = i
    · subst hji
      rw [rel_soon hL hLz]
      exact yields_hOp gs sub hi hy hb fun w' hb' => wpAnyP_later gs hb' H
    · have := ready_mono hj hji
      rw [H.1] at this
      cases this
  | succ fuel ih =>
    intro listed a W inv hfree hr hy H
    refine ⟨fun h => (by rw [h] at hr; cases hr), fun j hj w1 hb => ?_⟩
    by_cases hji : j = i
    · subst hji
      rw [rel_soon hL hLz]
      exact yields_hOp gs sub hi hy hb fun w' hb' => wpAnyP_later gs hb' H
    · have h1 := H.2 j (ready_mono hj hji) w1 hb
      obtain ⟨hjun, oj, hoj, hall⟩ := mem_ready.1 hj
      have hun : listed.getD i false = false := getD_both (mem_ready.1 hr).1
      have hjT : ∀ a b, rel L Lz S Z R j a b → T a b := by
        rcases hT j with hT | hT
        · have := ready_reach inv hj hT
          rw [hun] at this
          cases this
        · exact hT
      have hnot : ∀ e ∈ oj.after, Region.binds md e = true → e.on ≠ i := fun e he hbd heq => by
        have h1 := hall e he hbd
        rw [heq, hun] at h1
        cases h1
      have h2 := Two.Ph.hOp_put (rel_grow gs gz gr j) hoj (hfree j oj hoj hji hjun hnot) (fun cs b => hsel i oi cs b hi) (fun cs b => hsel j oj cs b hoj) hy h1
      have hfree' : ∀ k ok, ops[k]? = some ok → k ≠ i → (listed.setIfInBounds j true).getD k true = false →
          (∀ e ∈ ok.after, Region.binds md e = true → e.on ≠ i) → oi.apart ops ok = true := fun k ok hk hki hun hno => by
        refine hfree k ok hk hki ?_ hno
        by_cases hjk : j = k
        · subst hjk; exact hjun
        · rw [getD_set_ne true hjk] at hun; exact hun
      refine hOp_mono (rel_grow gs gz gr j) (fun a' w' hb' h3 => ih (listed.setIfInBounds j true) a' w' (inv.set hj) hfree' (ready_mono hr (Ne.symm hji)) (h3.1.later gt (gt.trans _ _ _ (sub _ _ hb) (hjT _ _ hb'))) ?_) h2
      rw [Array.setIfInBounds_comm _ _ hji]
      exact h3.2

/-- The walk in one order; 0: soft in every later world; 1: loud; 2: soft, ahead of every loud one; 3: soft while the less loud ones run, ahead of the louder ones; 4: less loud. -/
def mix (S Z R : World → World → Prop) (P : Program) (ops : Array Oper) (Q : Act → World → Prop) : List (Nat × Nat) → Act → World → Prop
  | [], a, w => ∀ w', S w w' → Q a w'
  | (i, 0) :: rest, a, w => ∃ o, ops[i]? = some o ∧ if Region.wanted o (yielded ops a.tmps) then soft S R P o a w (fun a' => mix S Z R P ops Q rest a' w) else mix S Z R P ops Q rest (a.put o.dst undef) w
  | (i, 1) :: rest, a, w => ∃ o, ops[i]? = some o ∧ if Region.wanted o (yielded ops a.tmps) then ∀ x : LaterR S w, hOper R P o a x.1 (mix S Z R P ops Q rest) else mix S Z R P ops Q rest (a.put o.dst undef) w
  | (i, 2) :: rest, a, w => ∃ o, ops[i]? = some o ∧ if Region.wanted o (yielded ops a.tmps) then soft S S P o a w (fun a' => mix S Z R P ops Q rest a' w) else mix S Z R P ops Q rest (a.put o.dst undef) w
  | (i, 3) :: rest, a, w => ∃ o, ops[i]? = some o ∧ if Region.wanted o (yielded ops a.tmps) then soft S Z P o a w (fun a' => mix S Z R P ops Q rest a' w) else mix S Z R P ops Q rest (a.put o.dst undef) w
  | (i, _ + 4) :: rest, a, w => ∃ o, ops[i]? = some o ∧ if Region.wanted o (yielded ops a.tmps) then ∀ x : LaterR S w, hOper Z P o a x.1 (mix S Z R P ops Q rest) else mix S Z R P ops Q rest (a.put o.dst undef) w

def mixOk (L Lz : List Nat) (md : Region.Mode) (ops : Array Oper) : List (Nat × Nat) → Array Bool → Bool
  | [], listed => (Region.ready md ops listed).isEmpty
  | (i, 0) :: rest, listed => (Region.ready md ops listed).contains i && !L.contains i && !Lz.contains i && Region.free md ops listed i && mixOk L Lz md ops rest (listed.setIfInBounds i true)
  | (i, 1) :: rest, listed => (Region.ready md ops listed == [i]) && L.contains i && !Lz.contains i && mixOk L Lz md ops rest (listed.setIfInBounds i true)
  | (i, 2) :: rest, listed => (Region.ready md ops listed).contains i && !L.contains i && !Lz.contains i && (L.all fun t => reachB md ops 2 t i) && (Lz.all fun t => reachB md ops 2 t i) && Region.free md ops listed i && mixOk L Lz md ops rest (listed.setIfInBounds i true)
  | (i, 3) :: rest, listed => (Region.ready md ops listed).contains i && !L.contains i && !Lz.contains i && (L.all fun t => reachB md ops 2 t i) && Region.free md ops listed i && mixOk L Lz md ops rest (listed.setIfInBounds i true)
  | (i, _ + 4) :: rest, listed => (Region.ready md ops listed == [i]) && Lz.contains i && mixOk L Lz md ops rest (listed.setIfInBounds i true)
def mixB (L Lz : List Nat) (ops : Array Oper) (order : List (Nat × Nat)) : Bool := Region.noSelect ops && order.length == ops.size && mixOk L Lz .any ops order (Array.replicate ops.size false)

theorem soft_first (gs : Grow S) (gz : Grow Z) (gr : Grow R) (gt : Grow T) (sub : ∀ a b, S a b → T a b) {Q : Act → World → Prop} (hs : Region.noSelect ops = true) {i : Nat} {n : Nat} {listed : Array Bool} {a : Act} {w : World} (inv : Closed md ops listed)
    (hr : (Region.ready md ops listed).contains i = true) (hL : L.contains i = false) (hLz : Lz.contains i = false) (hf : Region.free md ops listed i = true) {f : Nat} (hT : ∀ t, reachB md ops f t i = true ∨ (∀ a b, rel L Lz S Z R t a b → T a b)) {K : Act → Prop}
    (h : ∃ o, ops[i]? = some o ∧ if Region.wanted o (yielded ops a.tmps) then soft S T P o a w K else K (a.put o.dst undef)) (hK : ∀ a', K a' → wpAnyP L Lz S Z R P md ops Q n (listed.setIfInBounds i true) a' w) : wpAnyP L Lz S Z R P md ops Q (n + 1) listed a w := by
  obtain ⟨o, ho, h⟩ := h
  have hy : ∃ v, YieldsE S T P ops w o v a ∧ K (a.put o.dst v) := by
    split at h
    · rename_i hw
      obtain ⟨v, h1, h2⟩ := h
      exact ⟨v, .inl ⟨hw, h1⟩, h2⟩
    · rename_i hw
      exact ⟨undef, .inr ⟨by simpa using hw, rfl⟩, h⟩
  obtain ⟨v, hy, hk⟩ := hy
  have hr' : i ∈ Region.ready md ops listed := by simpa using hr
  exact wpAnyP_first gs gz gr gt sub ho hL hLz hT (Region.noSelect_spec hs) n listed a w inv (Region.free_spec ho hf) hr' hy (hK _ hk)
theorem loud_first (gs : Grow S) {Q : Act → World → Prop} {i : Nat} {n : Nat} {listed : Array Bool} {a : Act} {w : World} (hj : rel L Lz S Z R i = T) (gt : Grow T)
    (hr : Region.ready md ops listed = [i]) {K : Act → World → Prop}
    (h : ∃ o, ops[i]? = some o ∧ if Region.wanted o (yielded ops a.tmps) then ∀ x : LaterR S w, hOper T P o a x.1 K else K (a.put o.dst undef) w) (hK : ∀ a' w', K a' w' → wpAnyP L Lz S Z R P md ops Q n (listed.setIfInBounds i true) a' w') : wpAnyP L Lz S Z R P md ops Q (n + 1) listed a w := by
  obtain ⟨o, ho, h⟩ := h
  refine ⟨fun h0 => (by rw [hr] at h0; cases h0), fun j hj2 w1 hb => ?_⟩
  rw [hr, List.mem_singleton] at hj2
  subst hj2
  rw [hj]
  unfold hOp
  simp only [ho]
  split at h
  · rename_i hw
    simp only [hw, if_true]
    exact yieldsTo_mono gt (fun v w' _ hk => hK _ _ hk) (h ⟨w1, hb⟩)
  · rename_i hw
    simp only [hw]
    exact wpAnyP_later gs hb (hK _ _ h)

theorem mix_sound (gs : Grow S) (gz : Grow Z) (gr : Grow R) (sub : ∀ a b, S a b → Z a b) (sub2 : ∀ a b, Z a b → R a b) {Q : Act → World → Prop} (hs : Region.noSelect ops = true) : ∀ (l : List (Nat × Nat)) (listed : Array Bool) (a : Act) (w : World), Closed md ops listed →
    mixOk L Lz md ops l listed = true → mix S Z R P ops Q l a w → wpAnyP L Lz S Z R P md ops Q l.length listed a w
  | [], _, _, _, _, hB, h => ⟨by simpa [mixOk] using hB, h⟩
  | (i, 0) :: l, listed, a, w, inv, hB, h => by
    simp only [mixOk, Bool.and_eq_true, Bool.not_eq_true'] at hB
    obtain ⟨⟨⟨⟨hr, hL⟩, hLz⟩, hf⟩, hB'⟩ := hB
    simp only [mix] at h
    refine soft_first gs gz gr gr (fun a b h => sub2 _ _ (sub _ _ h)) hs inv hr hL hLz hf (f := 0) (fun t => .inr fun a b h => ?_) h fun a' hk => mix_sound gs gz gr sub sub2 hs l _ _ _ (inv.set (by simpa using hr)) hB' hk
    unfold rel at h
    split at h
    · exact sub2 _ _ h
    · split at h
      · exact h
      · exact sub2 _ _ (sub _ _ h)
  | (i, 1) :: l, listed, a, w, inv, hB, h => by
    simp only [mixOk, Bool.and_eq_true, beq_iff_eq, Bool.not_eq_true'] at hB
    obtain ⟨⟨⟨hr, hL⟩, hLz⟩, hB'⟩ := hB
    simp only [mix] at h
    exact loud_first gs (rel_late hLz hL) gr hr h fun a' w' hk => mix_sound gs gz gr sub sub2 hs l _ _ _ (inv.set (by rw [hr]; exact List.mem_singleton.2 rfl)) hB' hk
  | (i, 2) :: l, listed, a, w, inv, hB, h => by
    simp only [mixOk, Bool.and_eq_true, Bool.not_eq_true'] at hB
    obtain ⟨⟨⟨⟨⟨⟨hr, hL⟩, hLz⟩, hall⟩, hallz⟩, hf⟩, hB'⟩ := hB
    simp only [mix] at h
    refine soft_first gs gz gr gs (fun _ _ h => h) hs inv hr hL hLz hf (f := 2) (fun t => ?_) h fun a' hk => mix_sound gs gz gr sub sub2 hs l _ _ _ (inv.set (by simpa using hr)) hB' hk
    by_cases h1 : Lz.contains t = true
    · exact .inl (List.all_eq_true.1 hallz t (by simpa using h1))
    · by_cases h2 : L.contains t = true
      · exact .inl (List.all_eq_true.1 hall t (by simpa using h2))
      · exact .inr fun a b h => by rwa [rel_soon (by simpa using h2) (by simpa using h1)] at h
  | (i, 3) :: l, listed, a, w, inv, hB, h => by
    simp only [mixOk, Bool.and_eq_true, Bool.not_eq_true'] at hB
    obtain ⟨⟨⟨⟨⟨hr, hL⟩, hLz⟩, hall⟩, hf⟩, hB'⟩ := hB
    simp only [mix] at h
    refine soft_first gs gz gr gz sub hs inv hr hL hLz hf (f := 2) (fun t => ?_) h fun a' hk => mix_sound gs gz gr sub sub2 hs l _ _ _ (inv.set (by simpa using hr)) hB' hk
    by_cases h1 : Lz.contains t = true
    · exact .inr fun a b h => by rwa [rel_z h1] at h
    · by_cases h2 : L.contains t = true
      · exact .inl (List.all_eq_true.1 hall t (by simpa using h2))
      · exact .inr fun a b h => by rw [rel_soon (by simpa using h2) (by simpa using h1)] at h; exact sub _ _ h
  | (i, _ + 4) :: l, listed, a, w, inv, hB, h => by
    simp only [mixOk, Bool.and_eq_true, beq_iff_eq] at hB
    obtain ⟨⟨hr, hLz⟩, hB'⟩ := hB
    simp only [mix] at h
    exact loud_first gs (rel_z hLz) gz hr h fun a' w' hk => mix_sound gs gz gr sub sub2 hs l _ _ _ (inv.set (by rw [hr]; exact List.mem_singleton.2 rfl)) hB' hk

theorem wp_region_mix5 (gs : Grow S) (gz : Grow Z) (gr : Grow R) (sub : ∀ a b, S a b → Z a b) (sub2 : ∀ a b, Z a b → R a b) {id : Nat} {Q : Exit → Act → World → Prop} {a : Act} {w : World} {l : List Oper} (L Lz : List Nat) (order : List (Nat × Nat)) (hm : P.follows .mixedOrders = true) (hB : mixB L Lz l.toArray order = true)
    (h : mix S Z R P l.toArray (fun a' w' => Q .normal a' w') order a w.drew) : (Code.region id l.toArray true).wp P Q a w := by
  simp only [mixB, Bool.and_eq_true, beq_iff_eq] at hB
  obtain ⟨⟨h1, h2⟩, h3⟩ := hB
  refine wp_region_any hm (wpAny_of_P (L := L) (Lz := Lz) (Z := Z) (R := R) gs (Q := fun a' w' => Q .normal a' w') (fun _ _ h => h) _ _ _ _ ?_)
  rw [← h2]
  exact mix_sound gs gz gr sub sub2 h1 order _ a _ ⟨by simpa using h2, fun j oj _ hl => (by rw [getD_replicate_false] at hl; cases hl)⟩ (by rw [h2]; exact h3) h

section
variable {Q : Act → World → Prop} {l : List Oper} {i : Nat} {rest : List (Nat × Nat)} {o : Oper} {a : Act} {W : World}
theorem mix5_soft (ho : l[i]? = some o)
    (h : ∀ K : Act → Prop, (∀ a', mix S Z R P l.toArray Q rest a' W → K a') → if Region.wanted o (yielded l.toArray a.tmps) then soft S R P o a W K else K (a.put o.dst undef)) : mix S Z R P l.toArray Q ((i, 0) :: rest) a W := by
  simp only [mix]
  exact ⟨o, by simpa using ho, h _ fun _ h => h⟩
theorem mix5_soon (ho : l[i]? = some o)
    (h : ∀ K : Act → Prop, (∀ a', mix S Z R P l.toArray Q rest a' W → K a') → if Region.wanted o (yielded l.toArray a.tmps) then soft S S P o a W K else K (a.put o.dst undef)) : mix S Z R P l.toArray Q ((i, 2) :: rest) a W := by
  simp only [mix]
  exact ⟨o, by simpa using ho, h _ fun _ h => h⟩
theorem mix5_mid (ho : l[i]? = some o)
    (h : ∀ K : Act → Prop, (∀ a', mix S Z R P l.toArray Q rest a' W → K a') → if Region.wanted o (yielded l.toArray a.tmps) then soft S Z P o a W K else K (a.put o.dst undef)) : mix S Z R P l.toArray Q ((i, 3) :: rest) a W := by
  simp only [mix]
  exact ⟨o, by simpa using ho, h _ fun _ h => h⟩
theorem mix5_loud (ho : l[i]? = some o)
    (h : ∀ K : Act → World → Prop, (∀ a' w', mix S Z R P l.toArray Q rest a' w' → K a' w') → if Region.wanted o (yielded l.toArray a.tmps) then ∀ x : LaterR S W, hOper R P o a x.1 K else K (a.put o.dst undef) W) : mix S Z R P l.toArray Q ((i, 1) :: rest) a W := by
  simp only [mix]
  exact ⟨o, by simpa using ho, h _ fun _ _ h => h⟩
theorem mix5_less (ho : l[i]? = some o)
    (h : ∀ K : Act → World → Prop, (∀ a' w', mix S Z R P l.toArray Q rest a' w' → K a' w') → if Region.wanted o (yielded l.toArray a.tmps) then ∀ x : LaterR S W, hOper Z P o a x.1 K else K (a.put o.dst undef) W) : mix S Z R P l.toArray Q ((i, 4) :: rest) a W := by
  simp only [mix]
  exact ⟨o, by simpa using ho, h _ fun _ _ h => h⟩
theorem mix5_done (h : ∀ w', S W w' → Q a w') : mix S Z R P ops Q [] a W := by
  simp only [mix]
  exact h
end
end
end Go.Proofs.YtmapmeacjpoaoaaDoor.Two.Pq
