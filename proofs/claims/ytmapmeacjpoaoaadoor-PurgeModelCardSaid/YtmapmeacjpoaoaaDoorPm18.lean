/- What the model's snap does. -/
import Derived.Test.YtmapmeacjpoaoaaDoorPm17
namespace Go.Proofs.YtmapmeacjpoaoaaDoor
open Go Go.RowKit

theorem Mem.one {G : Nat → Prop} {w : World} {B n : Nat} {vn vu vq vg : Value} {X : Mv} {m : St} (h : Mem G w B n vn vu vq vg X m) : ∀ u ∈ X.ls, u.oneCell' = true := by
  intro u hu
  obtain ⟨i, hi, rfl⟩ := List.mem_iff_getElem.1 hu
  have h1 := own_len h.b.oL
  have h2 := h.b.nL
  obtain ⟨a, c, e, -⟩ := (h.f.here.L i hi (by omega)).shape
  rw [e]
  rfl
theorem Mem.vp_ne {G : Nat → Prop} {w : World} {B n : Nat} {vn vu vq vg : Value} {X : Mv} {m : St} (h : Mem G w B n vn vu vq vg X m) : X.vp.ownBlock ≠ some B := fun e => by
  rcases h.b.oP.2 with ⟨e2, -⟩ | ⟨g, c, cur, e2, -, hh, -⟩
  · rw [e2] at e; simp [Value.ownBlock] at e
  · rw [e2] at e
    have : g = B := by simpa [Value.ownBlock] using e
    exact ne_type hh h.b.hd (by decide) this
theorem snp_more {m : List Snp} {ps : List (Value × List Value)} (h : ps.length = m.length) {s : Snp} {p : Value × List Value} :
    snpCells (List.zipWith Snp4.put (m ++ [s]) ((ps ++ [p]).map (·.1))) = snpCells (List.zipWith Snp4.put m (ps.map (·.1))) ++ [.int .i64 s.level, .int .i64 s.n, .int .i64 s.snap, p.1] := by
  rw [List.map_append, List.zipWith_append (by simp [h]), ← snp_append]
  rfl
/-- The snapshots, with one more that is the lists as they are. -/
theorem Mem.snapFz {G : Nat → Prop} {w0 w : World} {B n : Nat} {vn vu vq vg : Value} {X : Mv} {m : St} (h : Mem G w0 B n vn vu vq vg X m) (hg : w0.grownBy w X.vp.ownBlock) (v v1 : Value) (hs : v.ownBlock = X.vp.ownBlock ∨ ∀ k, v.ownBlock = some k → w0.heap.size ≤ k)
    (base : Nat) (h1 : w0.ownsRow base 92 1 v1 n X.ls) (hbase : ∀ k, G k → k < base) {nn : Nat} {cs : List Value} (ho : w.ownsRow 0 107 4 v nn cs) (s : Snp) (hl : s.l = m.L) :
    Fz (fun k => G k ∨ v.ownBlock = some k) w (fun W => ∀ i (h : i < (X.ps ++ [(v1, X.ls)]).length) (h2 : i < (m.sn ++ [s]).length), Lv W (X.ps ++ [(v1, X.ls)])[i].1 (X.ps ++ [(v1, X.ls)])[i].2 (m.sn ++ [s])[i].l) := by
  have hG : ∀ k, k < w0.heap.size → (G k ∨ v.ownBlock = some k) → G k := fun k hk hh => by
    rcases hh with hh | hh
    · exact hh
    · rcases hs with hs | hs
      · exact h.g k (by unfold Mv.foot; simp [← hs, hh])
      · have := hs k hh; omega
  have hw := h.f.wide (ex_grown hg fun k hk => h.g k (by unfold Mv.foot; simp [hk])) hG
  have h3 := own_grown h1 hg (fun k hk e => own_type h.b.oP h1 (by decide) k e hk)
  have hlp := h.b.lp
  intro W hW i hi hi2
  have hf := hw W hW
  rcases Nat.lt_or_ge i X.ps.length with h5 | h5
  · rw [List.getElem_append_left h5, List.getElem_append_left (by omega)]
    exact hf.P i h5 (by omega)
  · obtain rfl : i = X.ps.length := by simp at hi; omega
    rw [List.getElem_append_right (Nat.le_refl _), List.getElem_append_right (by omega)]
    simp only [hlp, Nat.sub_self, List.getElem_cons_zero, hl]
    have h6 := own_ex h3 (fun k hk hh => by
      rcases hh with hh | hh
      · have h7 := ownBlock_ge h1 k hk
        have h8 := hbase k hh
        omega
      · exact own_type ho h3 (by decide) k hh hk) hW
    have h9 := own_len h.b.oL
    have h10 := h.b.nL
    refine ⟨by omega, ?_, fun i a b => hf.L i a b⟩
    rw [h10]
    exact Sl.of_owns h6
/-- The model after a snapshot. -/
theorem snap_left {G : Nat → Prop} {w w2 wn : World} {B n R : Nat} {vn vu vq vg : Value} {X : Mv} {us : List Value} {ps : List (Value × List Value)} {vs vp : Value} {m' : St} (hw : ∀ k, G k → k < w.heap.size) (hXG : ∀ k, X.foot B k → G k)
    (hM : Mem (fun k => (G k ∨ k = R) ∨ vp.ownBlock = some k) wn B n vn vu vq vg { X with vs := vs, us := us, vp := vp, ps := ps } m') (hx : Ex (X.foot B) w wn) (hR2 : R < w2.heap.size) (hR : w.heap.size < R) (hb : ∀ k, vp.ownBlock = some k → X.foot B k ∨ w2.heap.size ≤ k) (e n1 : Int) (vr vc : Value) :
    Left G w (rbw wn R e n1 vr vc) B n vn vu vq vg X { X with vs := vs, us := us, vp := vp, ps := ps } m' := by
  refine Left.res hw hXG (hM.narrow ?_ ?_) hx (Nat.le_of_lt hR) ?_ e n1 vr vc
  · rintro k ((hk | hk) | hk)
    · exact .inl (.inl hk)
    · unfold Mv.foot at hk
      simp only [] at hk
      rcases hk with hk | hk | hk | hk | hk | hk
      · exact .inl (.inl (hXG k (by unfold Mv.foot; simp [hk])))
      · exact .inl (.inl (hXG k (by unfold Mv.foot; simp [hk])))
      · exact .inl (.inl (hXG k (by unfold Mv.foot; simp [hk])))
      · exact .inl (.inl (hXG k (by unfold Mv.foot; simp [hk])))
      · exact .inl (.inl (hXG k (by unfold Mv.foot; simp [hk])))
      · exact .inr hk
    · exact .inl (.inr hk)
  · exact fun k hk => .inl (.inr hk)
  · intro k hk
    unfold Mv.foot at hk
    simp only [] at hk
    rcases hk with hk | hk | hk | hk | hk | hk
    · exact .inl (by unfold Mv.foot; simp [hk])
    · exact .inl (by unfold Mv.foot; simp [hk])
    · exact .inl (by unfold Mv.foot; simp [hk])
    · exact .inl (by unfold Mv.foot; simp [hk])
    · exact .inl (by unfold Mv.foot; simp [hk])
    · exact (hb k hk).imp id fun h => ⟨by omega, by omega⟩

set_option maxRecDepth 4000 in
set_option maxHeartbeats 4000000 in
theorem snap_any (G : Nat → Prop) (w : World) (B n : Nat) (vn vu vq vg : Value) (X : Mv) (m : St) (o : Opr) (u : Value) (h : Mem G w B n vn vu vq vg X m) (hn : n < 1000) (hsl : m.ses.length ≤ 1000) (hs1 : ∀ s ∈ m.ses, s.snaps.length ≤ 1000 ∧ 0 ≤ s.last ∧ s.last ≤ 1000) (hsn : m.sn.length ≤ 1000) :
    Calls Tryd.prog 26 #[.pointer (some ⟨B, 0, none⟩), opv (o.put u)] w (MutPost G w B n vn vu vq vg X (M.snap m o).1 (M.snap m o).2) := by
  have hE := (Ent.box h.mr o u).alloc ((Below.refl _ _).alloc (Nat.le_refl _) (.cells #[.int .i64 0, .int .i64 0, (.slice none 0 0), .int .i64 0, .int .i64 0, .int .i64 0, .int .i64 0, (.slice none 0 0)] 45))
  have hR : Rb ((w.alloc (.cells (opc o u) 33)).alloc (.cells #[.int .i64 0, .int .i64 0, (.slice none 0 0), .int .i64 0, .int .i64 0, .int .i64 0, .int .i64 0, (.slice none 0 0)] 45)) (w.alloc (.cells (opc o u) 33)).heap.size 0 0 (.slice none 0 0) (.slice none 0 0) := heap_alloc_new _ _
  have hR2 : w.heap.size < (w.alloc (.cells (opc o u) 33)).heap.size := by simp
  have hR3 : (w.alloc (.cells (opc o u) 33)).heap.size < ((w.alloc (.cells (opc o u) 33)).alloc (.cells #[.int .i64 0, .int .i64 0, (.slice none 0 0), .int .i64 0, .int .i64 0, .int .i64 0, .int .i64 0, (.slice none 0 0)] 45)).heap.size := by simp
  obtain ⟨w2, hw2⟩ : ∃ w2, (w.alloc (.cells (opc o u) 33)).alloc (.cells #[.int .i64 0, .int .i64 0, (.slice none 0 0), .int .i64 0, .int .i64 0, .int .i64 0, .int .i64 0, (.slice none 0 0)] 45) = w2 := ⟨_, rfl⟩
  obtain ⟨R, hRR⟩ : ∃ R, (w.alloc (.cells (opc o u) 33)).heap.size = R := ⟨_, rfl⟩
  have hRQ : w.heap.size + 1 = R := by rw [← hRR]; simp
  obtain ⟨Qo, hQo⟩ : ∃ Qo, w.heap.size = Qo := ⟨_, rfl⟩
  rw [hw2] at hE hR hR3
  rw [hRR] at hR hR2 hR3
  have HE := Lib.hid hE
  have HR2 := Lib.hid hR2
  have HM := Lib.hid (h.wide hE.b (Nat.le_of_lt hR2) hR3)
  have HX : Hid (Ex (X.foot B) w2 w2) := Ex.refl _ _
  have HLT := Lib.hid h.lt
  have HXG := Lib.hid h.g
  have HNE := Lib.hid h.ne
  have HQF : Hid (¬ X.foot B Qo) := fun hf => by
    have := h.lt Qo (h.g Qo hf)
    omega
  have HRb : Hid (∀ W, Ex (X.foot B) w2 W → Rb W R 0 0 (.slice none 0 0) (.slice none 0 0)) := fun W hW => hR.ex hW fun hf => by
    have := h.lt R (h.g R hf)
    omega
  obtain ⟨o0, o1, o2, o3, o4, o5, o6, o7, o8, o9, kk⟩ := o
  have HOP := Lib.hid (fun W (hW : Ex (X.foot B) w2 W) => hE.atx hW (by rw [hQo]; exact HQF.out))
  simp only [] at HOP
  rw [hQo] at HOP
  have HSL := Lib.hid hsl
  have HS1 := Lib.hid hs1
  have HSN := Lib.hid hsn
  have HR3 := Lib.hid hR3
  clear hsl hs1 hsn
  simp only [Op11.put, opc] at hw2 ⊢
  rw [hQo] at hRQ HE
  clear h hE hR hR2 hR3 hRR
  go_enter Tryd.func26, Tryd.ntmps26
  obtain ⟨p0, -⟩ := HOP.out w2 HX.out
  by_cases h12 : o0 = 12
  · subst h12
    have d12 : decide ((12 : Int) = 12) = true := by decide
    have e12 : ((12 : Int) == 12) = true := by decide
    go_wp2_with fail
    clear p0 hw2 hQo hRQ
    refine wp_region_mix ext_grow [(0, false), (1, false), (2, false), (3, false), (4, false), (5, false), (6, false), (7, false), (8, false), (9, false), (10, true), (11, false), (12, false), (13, false), (14, false), (15, false)] (by kernel_rfl) (by kernel_rfl) ?_
    have HMq := Lib.hid (HM.out.below (Below.drew (Below.refl _ _)))
    have HXq : Hid (Ex (X.foot B) w2 w2.drew) := HX.out.trans (Ex.of_below (Below.drew (Below.refl _ _)))
    clear HM HX
    generalize w2.drew = wd at *
    have HM := HMq
    have HX := HXq
    clear HMq HXq
    have q8 : ∀ z : Later wd, z.1.cell? ⟨B, 8, none⟩ = some X.vs := fun z => (HM.out.b.below z.2).cells.c8
    have p1 : ∀ z : Later wd, z.1.cell? ⟨Qo, 1, none⟩ = some (.int .i64 o1) := fun z => (HOP.out z.1 (HX.out.trans (Ex.of_below z.2))).2.1
    have p2 : ∀ z : Later wd, z.1.cell? ⟨Qo, 2, none⟩ = some (.int .i64 o2) := fun z => (HOP.out z.1 (HX.out.trans (Ex.of_below z.2))).2.2.1
    have p3 : ∀ z : Later wd, z.1.cell? ⟨Qo, 3, none⟩ = some (.int .i64 o3) := fun z => (HOP.out z.1 (HX.out.trans (Ex.of_below z.2))).2.2.2.1
    repeat (refine mix_soft rfl (fun K hK => ?_); go_simp; (first | (refine hK _ ?_; clear hK K) | (apply Exists.intro; refine ⟨fun z => ?_, hK _ ?_⟩; (first | done); clear hK K)))
    clear q8 p1 p2 p3
    refine mix_loud rfl (fun K hK => ?_)
    go_simp
    intro z
    have HMz := Lib.hid (HM.out.below z.2)
    refine (sunsnap_any (fun k => G k ∨ k = R) X.vs X.us m.ses o1 o2 o3 z.1 (fun W hW => (HMz.out.f W hW).S) HMz.out.lt HSL.out HS1.out).mono ?_
    rintro e w4 ⟨v4, us4, rfl, hfs, hb4⟩
    refine ⟨_, rfl, hb4, hK _ _ ?_⟩
    have HFS := Lib.hid hfs
    have HMq := Lib.hid (HMz.out.below hb4)
    have HXq : Hid (Ex (X.foot B) w2 w4) := HX.out.trans (Ex.of_below (below_next z.2 hb4))
    clear hK K hfs hb4 HMz HM HX
    generalize z.1 = wz at *
    clear z
    have HM := HMq
    have HX := HXq
    clear HMq HXq
    obtain ⟨va, vn', vc, rfl⟩ : ∃ a n c, v4 = .slice a n c := by
      obtain ⟨a, c, e, -⟩ := HFS.out.here.sl.shape
      exact ⟨a, _, c, e⟩
    repeat (refine mix_soft rfl (fun K hK => ?_); go_simp; (first | (refine hK _ ?_; clear hK K) | (apply Exists.intro; refine ⟨fun z => ?_, hK _ ?_⟩; (first | done); clear hK K)))
    refine mix_done fun w5 hx5 => ?_
    have HFq := Lib.hid (HFS.out.below hx5)
    have HMq := Lib.hid (HM.out.below hx5)
    have HXq : Hid (Ex (X.foot B) w2 w5) := HX.out.trans (Ex.of_below hx5)
    clear HFS HM HX hx5
    have c8 := HMq.out.b.cells.c8
    have f8 := HMq.out.b.free 8
    have HM := Lib.hid (HMq.out.setS (.slice va vn' vc) us4 (M.unsnapS m.ses o1 o2 o3) HFq.out)
    have HX : Hid (Ex (X.foot B) w2 (w5.setCell ⟨B, 8, none⟩ (.slice va vn' vc))) := HXq.out.trans (Ex.setCell w5 B 8 (by unfold Mv.foot; simp) _)
    clear HMq HXq HFq
    obtain ⟨hd, hhd⟩ : ∃ b, M.had m.ses o1 o2 o3 = b := ⟨_, rfl⟩
    have HHD := Lib.hid hhd
    rw [hhd]
    clear hhd
    cases hd with
    | false =>
      have HRES : Hid (M.snap m ⟨12, o1, o2, o3, o4, o5, o6, o7, o8, o9, kk⟩ = (M.bad 39, { m with ses := (M.unsnapS m.ses o1 o2 o3) })) := by
        unfold Hid M.snap
        simp [HHD.out]
      have st := Lib.hid (not_any 39 (w5.setCell ⟨B, 8, none⟩ (.slice va vn' vc)))
      go_wp2_with fail
      refine st.out.mono ?_
      rintro e wn ⟨rfl, hx⟩
      have HMn := Lib.hid (HM.out.below hx)
      have HXn : Hid (Ex (X.foot B) w2 wn) := HX.out.trans (Ex.of_below hx)
      clear st hx HM HX c8 f8
      have hrb := HRb.out wn HXn.out
      obtain ⟨⟨v0, z0⟩, ⟨v1, z1⟩, ⟨v2, z2⟩, ⟨v3, z3⟩, ⟨v4, z4⟩, ⟨v5, z5⟩, ⟨v6, z6⟩, ⟨v7, z7⟩⟩ := hrb.olds
      have y0 := hrb.go 0
      have y1 := hrb.go 1
      have y2 := hrb.go 2
      have y3 := hrb.go 3
      have y4 := hrb.go 4
      have y5 := hrb.go 5
      have y6 := hrb.go 6
      have y7 := hrb.go 7
      clear hrb
      go_wp2_with fail
      refine bodyPost_ret (res_results rfl _ _ R 39 0 (.slice none 0 0) (.slice none 0 0) rfl ((HRb.out wn HXn.out).put 39 0 (.slice none 0 0) (.slice none 0 0))) rfl ?_
      have HF1 : Ending.returned (resv 39 0 (.slice none 0 0) (.slice none 0 0)) = Ending.returned (resv (M.snap m ⟨12, o1, o2, o3, o4, o5, o6, o7, o8, o9, kk⟩).1.e (M.snap m ⟨12, o1, o2, o3, o4, o5, o6, o7, o8, o9, kk⟩).1.n (.slice none 0 0) (.slice none 0 0)) := by rw [HRES.out] <;> rfl
      have HF2 : Left G w (rbw wn R 39 0 (.slice none 0 0) (.slice none 0 0)) B n vn vu vq vg X { X with vs := .slice va vn' vc, us := us4 } (M.snap m ⟨12, o1, o2, o3, o4, o5, o6, o7, o8, o9, kk⟩).2 := by
        rw [HRES.out]
        exact Left.res1 HLT.out HXG.out HMn.out (Ex.trans (Ex.of_below HE.out.b) HXn.out) (Nat.le_of_lt HR2.out) rfl 39 0 (.slice none 0 0) (.slice none 0 0)
      unfold MutPost
      exact ⟨_, HF1, HF2⟩
    | true =>
      have HRES : Hid (M.snap m ⟨12, o1, o2, o3, o4, o5, o6, o7, o8, o9, kk⟩ = (M.ok, { m with ses := (M.unsnapS m.ses o1 o2 o3) })) := by
        unfold Hid M.snap
        simp [HHD.out]
      have hrb := HRb.out (w5.setCell ⟨B, 8, none⟩ (.slice va vn' vc)) HX.out
      obtain ⟨⟨v0, z0⟩, ⟨v1, z1⟩, ⟨v2, z2⟩, ⟨v3, z3⟩, ⟨v4, z4⟩, ⟨v5, z5⟩, ⟨v6, z6⟩, ⟨v7, z7⟩⟩ := hrb.olds
      have y0 := hrb.go 0
      have y1 := hrb.go 1
      have y2 := hrb.go 2
      have y3 := hrb.go 3
      have y4 := hrb.go 4
      have y5 := hrb.go 5
      have y6 := hrb.go 6
      have y7 := hrb.go 7
      clear hrb
      go_wp2_with fail
      refine bodyPost_ret (res_results rfl _ _ R 0 0 (.slice none 0 0) (.slice none 0 0) rfl ((HRb.out (w5.setCell ⟨B, 8, none⟩ (.slice va vn' vc)) HX.out).put 0 0 (.slice none 0 0) (.slice none 0 0))) rfl ?_
      have HF1 : Ending.returned (resv 0 0 (.slice none 0 0) (.slice none 0 0)) = Ending.returned (resv (M.snap m ⟨12, o1, o2, o3, o4, o5, o6, o7, o8, o9, kk⟩).1.e (M.snap m ⟨12, o1, o2, o3, o4, o5, o6, o7, o8, o9, kk⟩).1.n (.slice none 0 0) (.slice none 0 0)) := by rw [HRES.out] <;> rfl
      have HF2 : Left G w (rbw (w5.setCell ⟨B, 8, none⟩ (.slice va vn' vc)) R 0 0 (.slice none 0 0) (.slice none 0 0)) B n vn vu vq vg X { X with vs := .slice va vn' vc, us := us4 } (M.snap m ⟨12, o1, o2, o3, o4, o5, o6, o7, o8, o9, kk⟩).2 := by
        rw [HRES.out]
        exact Left.res1 HLT.out HXG.out HM.out (Ex.trans (Ex.of_below HE.out.b) HX.out) (Nat.le_of_lt HR2.out) rfl 0 0 (.slice none 0 0) (.slice none 0 0)
      unfold MutPost
      exact ⟨_, HF1, HF2⟩
  · have d12 : decide (o0 = 12) = false := by simp [h12]
    have e12 : (o0 == 12) = false := by simp [h12]
    go_wp2_with fail
    clear p0 hw2 hQo hRQ
    refine wp_region_mix ext_grow [(0, false), (1, false), (2, false), (3, false), (4, false), (5, false), (6, false), (7, false), (8, true), (9, false), (10, false), (11, false), (12, false), (13, false)] (by kernel_rfl) (by kernel_rfl) ?_
    have HMq := Lib.hid (HM.out.below (Below.drew (Below.refl _ _)))
    have HXq : Hid (Ex (X.foot B) w2 w2.drew) := HX.out.trans (Ex.of_below (Below.drew (Below.refl _ _)))
    clear HM HX
    generalize w2.drew = wd at *
    have HM := HMq
    have HX := HXq
    clear HMq HXq
    have q8 : ∀ z : Later wd, z.1.cell? ⟨B, 8, none⟩ = some X.vs := fun z => (HM.out.b.below z.2).cells.c8
    have p1 : ∀ z : Later wd, z.1.cell? ⟨Qo, 1, none⟩ = some (.int .i64 o1) := fun z => (HOP.out z.1 (HX.out.trans (Ex.of_below z.2))).2.1
    have p2 : ∀ z : Later wd, z.1.cell? ⟨Qo, 2, none⟩ = some (.int .i64 o2) := fun z => (HOP.out z.1 (HX.out.trans (Ex.of_below z.2))).2.2.1
    repeat (refine mix_soft rfl (fun K hK => ?_); go_simp; (first | (refine hK _ ?_; clear hK K) | (apply Exists.intro; refine ⟨fun z => ?_, hK _ ?_⟩; (first | done); clear hK K)))
    clear q8 p1 p2
    refine mix_loud rfl (fun K hK => ?_)
    go_simp
    intro z
    have HMz := Lib.hid (HM.out.below z.2)
    refine (ssnap_any (fun k => G k ∨ k = R) X.vs X.us m.ses o1 o2 z.1 (fun W hW => (HMz.out.f W hW).S) HMz.out.lt HSL.out HS1.out).mono ?_
    rintro e w4 ⟨v4, us4, rfl, hfs, hb4⟩
    refine ⟨_, rfl, hb4, hK _ _ ?_⟩
    have HFS := Lib.hid hfs
    have HMq := Lib.hid (HMz.out.below hb4)
    have HXq : Hid (Ex (X.foot B) w2 w4) := HX.out.trans (Ex.of_below (below_next z.2 hb4))
    clear hK K hfs hb4 HMz HM HX
    generalize z.1 = wz at *
    clear z
    have HM := HMq
    have HX := HXq
    clear HMq HXq
    obtain ⟨va, vn', vc, rfl⟩ : ∃ a n c, v4 = .slice a n c := by
      obtain ⟨a, c, e, -⟩ := HFS.out.here.sl.shape
      exact ⟨a, _, c, e⟩
    repeat (refine mix_soft rfl (fun K hK => ?_); go_simp; (first | (refine hK _ ?_; clear hK K) | (apply Exists.intro; refine ⟨fun z => ?_, hK _ ?_⟩; (first | done); clear hK K)))
    refine mix_done fun w5 hx5 => ?_
    have HFq := Lib.hid (HFS.out.below hx5)
    have HMq := Lib.hid (HM.out.below hx5)
    have HXq : Hid (Ex (X.foot B) w2 w5) := HX.out.trans (Ex.of_below hx5)
    clear HFS HM HX hx5
    have c8 := HMq.out.b.cells.c8
    have f8 := HMq.out.b.free 8
    have HM := Lib.hid (HMq.out.setS (.slice va vn' vc) us4 (M.snapS m.ses o1 o2) HFq.out)
    have HX : Hid (Ex (X.foot B) w2 (w5.setCell ⟨B, 8, none⟩ (.slice va vn' vc))) := HXq.out.trans (Ex.setCell w5 B 8 (by unfold Mv.foot; simp) _)
    clear HMq HXq HFq
    obtain ⟨N, hN⟩ : ∃ k, M.snapN m.ses o1 o2 = k := ⟨_, rfl⟩
    have HRES : Hid (M.snap m ⟨o0, o1, o2, o3, o4, o5, o6, o7, o8, o9, kk⟩ = (⟨0, N, [], []⟩, { m with ses := (M.snapS m.ses o1 o2), sn := m.sn ++ [⟨o1, o2, N, m.L⟩] })) := by
      unfold Hid M.snap
      simp [h12, hN]
    rw [hN]
    clear hN
    obtain ⟨-, p1, p2, -, -, -, -, -, -, -, -⟩ := HOP.out (w5.setCell ⟨B, 8, none⟩ (.slice va vn' vc)) HX.out
    go_wp2_with fail
    clear c8 f8 p1 p2
    have hsz : (w5.setCell ⟨B, 8, none⟩ (.slice va vn' vc)).heap.size = w5.heap.size := by simp [World.setCell]
    obtain ⟨bp, hbp⟩ : ∃ k, w5.heap.size = k := ⟨_, rfl⟩
    rw [hbp] at hsz ⊢
    obtain ⟨w6, hw6⟩ : ∃ W, (w5.setCell ⟨B, 8, none⟩ (.slice va vn' vc)) = W := ⟨_, rfl⟩
    rw [hw6] at HM HX hsz ⊢
    clear hw6 hbp
    have hb7 : Below w6.heap.size w6 (w6.alloc (.cells #[.int .i64 o1, .int .i64 o2, .int .i64 N, (.slice none 0 0)] 107)) := (Below.refl _ _).alloc (Nat.le_refl _) _
    have hB7 : (w6.alloc (.cells #[.int .i64 o1, .int .i64 o2, .int .i64 N, (.slice none 0 0)] 107)).heap[bp]? = some (.cells #[.int .i64 o1, .int .i64 o2, .int .i64 N, (.slice none 0 0)] 107) := by rw [← hsz]; exact heap_alloc_new _ _
    have hs7 : bp < (w6.alloc (.cells #[.int .i64 o1, .int .i64 o2, .int .i64 N, (.slice none 0 0)] 107)).heap.size := by simp [hsz]
    obtain ⟨w7, hw7⟩ : ∃ W, w6.alloc (.cells #[.int .i64 o1, .int .i64 o2, .int .i64 N, (.slice none 0 0)] 107) = W := ⟨_, rfl⟩
    rw [hw7] at hb7 hB7 hs7 ⊢
    clear hw7
    have HSZ := Lib.hid hsz
    clear hsz
    refine Two.Ph.wp_region_mix3 Two.Ph.eq_grow Two.Ph.any_grow (fun _ _ _ => trivial) [6, 8] [(0, 2), (1, 2), (2, 0), (3, 2), (4, 2), (5, 2), (6, 1), (7, 0), (8, 1)] (by kernel_rfl) (by kernel_rfl) ?_
    have hb8 := Lib.hid (below_next hb7 (Below.drew (Below.refl _ _)))
    have hB8 := Lib.hid (show w7.drew.heap[bp]? = some (.cells #[.int .i64 o1, .int .i64 o2, .int .i64 N, (.slice none 0 0)] 107) from hB7)
    have hs8 := Lib.hid (show bp < w7.drew.heap.size from hs7)
    clear hb7 hB7 hs7
    generalize w7.drew = w8 at *
    have k3 : w8.cell? ⟨bp, 3, none⟩ = some (.slice none 0 0) := cell_of_row w8 bp 3 _ _ (0, 0) hB8.out
    have c4 : w8.cell? ⟨B, 4, none⟩ = some (slv X.bL n) := (HM.out.b.below hb8.out).cells.c4
    repeat ((first | refine Two.Ph.mix3_soft rfl (fun K hK => ?_) | refine Two.Ph.mix3_soon rfl (fun K hK => ?_)); go_simp; (first | (refine hK _ ?_; clear hK K) | (apply Exists.intro; refine ⟨fun z => ?_, hK _ ?_⟩; (first | done); clear hK K)))
    clear k3 c4
    refine Two.Ph.mix3_loud rfl (fun K hK => ?_)
    refine ite_yes rfl ?_
    rintro ⟨_, rfl⟩
    refine hOper_append_st _ _ 59 rfl w8.heap.size 92 _ 1 24 Tryd.underlying59 infoEs rfl (by decide) (.slice none 0 0) 0 [] rfl (World.ownsRow_nil _ _ _ _) (slv X.bL n) n X.ls rfl (Sl.of_owns (HM.out.below hb8.out).b.oL) (HM.out.one) (by unfold maxLen; omega) (by omega) (Nat.le_refl _) ?_
    intro vr w9 hown hgr hsame
    have hown := by simpa using hown
    obtain ⟨ra, rn, rc, rfl⟩ : ∃ a n c, vr = .slice a n c := by
      obtain ⟨a, c, e, -⟩ := (Sl.of_owns hown).shape
      exact ⟨a, _, c, e⟩
    have hb89 : Below w8.heap.size w8 w9 := (Below.refl _ _).grown hgr (Nat.le_refl _) (by simp [Value.ownBlock])
    have hb9 := Lib.hid (below_next hb8.out hb89)
    have hB9 := Lib.hid ((hb89.block bp hs8.out).trans hB8.out)
    have HV9 := Lib.hid hown
    have hs9 := Lib.hid (Nat.le_of_lt hs8.out)
    have hlt9 := Lib.hid (Nat.lt_of_lt_of_le hs8.out hb89.size)
    refine ⟨trivial, hK _ _ ?_⟩
    clear hK K hown hgr hsame hb89 hb8 hB8
    have k3 : w9.cell? ⟨bp, 3, none⟩ = some (.slice none 0 0) := cell_of_row w9 bp 3 _ _ (0, 0) hB9.out
    have k4 : w9.frozen? ⟨bp, 3, none⟩ = false := frozen_of_row w9 bp 3 _ _ hB9.out
    repeat ((first | refine Two.Ph.mix3_soft rfl (fun K hK => ?_) | refine Two.Ph.mix3_soon rfl (fun K hK => ?_)); go_simp; (first | (refine hK _ ?_; clear hK K) | (apply Exists.intro; refine ⟨fun z => ?_, hK _ ?_⟩; (first | done); clear hK K)))
    refine Two.Ph.mix3_loud rfl (fun K hK => ?_)
    go_simp
    refine hK _ _ ?_
    clear hK K k3 k4
    refine Two.Ph.mix3_done fun wx hx => ?_
    subst hx
    have hb10 := Lib.hid (hb9.out.setCell (p := ⟨bp, 3, none⟩) (by rw [HSZ.out]; exact Nat.le_refl _) (.slice ra rn rc))
    have hB10 : Hid ((w9.setCell ⟨bp, 3, none⟩ (.slice ra rn rc)).heap[bp]? = some (.cells #[.int .i64 o1, .int .i64 o2, .int .i64 N, .slice ra rn rc] 107)) := by
      have := hB9.out
      unfold Hid
      simp [World.setCell, Array.getElem?_modify, this]
    have HV10 : Hid ((w9.setCell ⟨bp, 3, none⟩ (.slice ra rn rc)).ownsRow w8.heap.size 92 1 (.slice ra rn rc) n X.ls) := own_set HV9.out (fun e => by
      have h1 := ownBlock_ge HV9.out bp e
      have h2 := hs8.out
      omega)
    have hlt10 : Hid (bp < (w9.setCell ⟨bp, 3, none⟩ (.slice ra rn rc)).heap.size) := by unfold Hid; simpa [World.setCell] using hlt9.out
    clear hb9 hB9 HV9 hlt9
    obtain ⟨w10, hw10⟩ : ∃ W, w9.setCell ⟨bp, 3, none⟩ (.slice ra rn rc) = W := ⟨_, rfl⟩
    rw [hw10] at hb10 hB10 HV10 hlt10 ⊢
    clear hw10
    have HBS := Lib.hid (show w6.heap.size ≤ w8.heap.size by rw [HSZ.out]; exact hs9.out)
    clear hs9 hs8
    go_wp2_with fail
    refine Two.Pq.wp_region_mix5 Two.Ph.eq_grow ext_grow Two.Ph.any_grow (fun _ _ h => h ▸ Below.refl _ _) (fun _ _ _ => trivial) [7, 10] [6] [(0, 0), (1, 0), (2, 3), (3, 3), (4, 3), (5, 2), (6, 4), (7, 1), (8, 0), (9, 0), (10, 1)] (by kernel_rfl) (by kernel_rfl) ?_
    have hb11 := Lib.hid (below_next hb10.out (Below.drew (Below.refl _ _)))
    have hB11 := Lib.hid (show w10.drew.heap[bp]? = some (.cells #[.int .i64 o1, .int .i64 o2, .int .i64 N, .slice ra rn rc] 107) from hB10.out)
    have HV11 := Lib.hid (ownsRow.below HV10.out (Below.drew (Below.refl _ _)))
    clear hb10 hB10 HV10 hlt10
    generalize w10.drew = w11 at *
    have q9 : ∀ z : Later w11, z.1.cell? ⟨B, 9, none⟩ = some X.vp := fun z => ((HM.out.b.below hb11.out).below z.2).cells.c9
    have k0 : w11.cell? ⟨bp, 0, none⟩ = some (.int .i64 o1) := cell_of_row w11 bp 0 _ _ (0, 0) hB11.out
    have k1 : w11.cell? ⟨bp, 1, none⟩ = some (.int .i64 o2) := cell_of_row w11 bp 1 _ _ (0, 0) hB11.out
    have k2 : w11.cell? ⟨bp, 2, none⟩ = some (.int .i64 N) := cell_of_row w11 bp 2 _ _ (0, 0) hB11.out
    have k3 : w11.cell? ⟨bp, 3, none⟩ = some (.slice ra rn rc) := cell_of_row w11 bp 3 _ _ (0, 0) hB11.out
    repeat ((first | refine Two.Pq.mix5_soft rfl (fun K hK => ?_) | refine Two.Pq.mix5_soon rfl (fun K hK => ?_) | refine Two.Pq.mix5_mid rfl (fun K hK => ?_)); go_simp; (first | (refine hK _ ?_; clear hK K) | (apply Exists.intro; refine ⟨fun z => ?_, hK _ ?_⟩; (first | done); clear hK K)))
    clear q9 k0 k1 k2 k3
    refine Two.Pq.mix5_less rfl (fun K hK => ?_)
    go_simp
    refine hK _ _ ?_
    clear hK K
    have hba : Below w11.heap.size w11 (w11.alloc (.cells #[.int .i64 o1, .int .i64 o2, .int .i64 N, .slice ra rn rc] 107)) := (Below.refl _ _).alloc (Nat.le_refl _) _
    have hb12 := Lib.hid (below_next hb11.out hba)
    have HV12 := Lib.hid (ownsRow.below HV11.out hba)
    have HSR : Hid (Sl (w11.alloc (.cells #[.int .i64 o1, .int .i64 o2, .int .i64 N, .slice ra rn rc] 107)) 4 1 (.slice (some ⟨w11.heap.size, 0, none⟩) 1 1) [.int .i64 o1, .int .i64 o2, .int .i64 N, .slice ra rn rc]) := Sl.lit w11 107 4 1 #[.int .i64 o1, .int .i64 o2, .int .i64 N, .slice ra rn rc] (0, 0) rfl (by decide)
    clear hba hb11 hB11 HV11
    repeat ((first | refine Two.Pq.mix5_soft rfl (fun K hK => ?_) | refine Two.Pq.mix5_soon rfl (fun K hK => ?_) | refine Two.Pq.mix5_mid rfl (fun K hK => ?_)); go_simp; (first | (refine hK _ ?_; clear hK K) | (apply Exists.intro; refine ⟨fun z => ?_, hK _ ?_⟩; (first | done); clear hK K)))
    refine Two.Pq.mix5_loud rfl (fun K hK => ?_)
    refine ite_yes rfl ?_
    rintro ⟨_, rfl⟩
    have HM12 := Lib.hid (HM.out.below hb12.out)
    refine hOper_append_st _ _ 62 rfl 0 107 _ 4 48 Tryd.underlying62 infoP rfl (by decide) X.vp m.sn.length _ rfl HM12.out.b.oP _ 1 _ rfl HSR.out (by simp; exact ⟨rfl, rfl, rfl, rfl⟩) (by unfold maxLen; have := HSN.out; omega) (by have := HSN.out; omega) (Nat.zero_le _) ?_
    intro v13 w13 hown hgr hsame
    obtain ⟨sa, sn', sc, hv13⟩ : ∃ a n c, v13 = .slice a n c := by
      obtain ⟨a, c, e, -⟩ := (Sl.of_owns hown).shape
      exact ⟨a, _, c, e⟩
    have hown2 : w13.ownsRow 0 107 4 v13 (m.sn ++ [(⟨o1, o2, N, m.L⟩ : Snp)]).length (snpCells (List.zipWith Snp4.put (m.sn ++ [(⟨o1, o2, N, m.L⟩ : Snp)]) ((X.ps ++ [((Value.slice ra rn rc), X.ls)]).map (·.1)))) := by
      rw [snp_more HM12.out.b.lp, List.length_append]
      exact hown
    have hfz := HM12.out.snapFz hgr v13 (.slice ra rn rc) hsame w8.heap.size HV12.out (fun k hk => by
      have h1 := HM.out.lt k hk
      have h2 := HBS.out
      omega) hown ⟨o1, o2, N, m.L⟩ rfl
    have HX12 : Hid (Ex (X.foot B) w2 (w11.alloc (.cells #[.int .i64 o1, .int .i64 o2, .int .i64 N, .slice ra rn rc] 107))) := HX.out.trans (Ex.of_below hb12.out)
    have HX13 : Hid (Ex (X.foot B) w2 w13) := HX12.out.trans (ex_grown hgr fun k hk => by
      unfold Mv.foot
      exact .inr (.inr (.inr (.inr (.inr hk)))))
    have hBvp : X.vp.ownBlock ≠ some B := HM12.out.vp_ne
    have hh13 : w13.heap[B]? = (w11.alloc (.cells #[.int .i64 o1, .int .i64 o2, .int .i64 N, .slice ra rn rc] 107)).heap[B]? := hgr.block B HM12.out.b.lt (fun e => hBvp e.symm)
    have hhd := hh13.trans HM12.out.b.hd
    have c9 : w13.cell? ⟨B, 9, none⟩ = some X.vp := cell_of_row w13 B 9 _ _ (0, 0) hhd
    have f9 : w13.frozen? ⟨B, 9, none⟩ = false := frozen_of_row w13 B 9 _ _ hhd
    have HM14 := Lib.hid (HM12.out.setP hgr v13 (X.ps ++ [((Value.slice ra rn rc), X.ls)]) (m.sn ++ [(⟨o1, o2, N, m.L⟩ : Snp)]) hown2 (by simp [HM12.out.b.lp]) hsame hfz)
    have HX14 : Hid (Ex (X.foot B) w2 (w13.setCell ⟨B, 9, none⟩ v13)) := HX13.out.trans (Ex.setCell w13 B 9 (by unfold Mv.foot; simp) _)
    have HLE : Hid (∀ k, v13.ownBlock = some k → X.foot B k ∨ w2.heap.size ≤ k) := fun k hk => by
      rcases hsame with hsame | hsame
      · refine .inl ?_
        unfold Mv.foot
        rw [hsame] at hk
        exact .inr (.inr (.inr (.inr (.inr hk))))
      · exact .inr (Nat.le_trans HX12.out.size (hsame k hk))
    refine ⟨trivial, hK _ _ ?_⟩
    clear hK K hown hown2 hgr hsame hfz HX12 HX13 hBvp hh13 hhd HM12 HV12 HSR hb12 HM HX
    subst hv13
    repeat ((first | refine Two.Pq.mix5_soft rfl (fun K hK => ?_) | refine Two.Pq.mix5_soon rfl (fun K hK => ?_) | refine Two.Pq.mix5_mid rfl (fun K hK => ?_)); go_simp; (first | (refine hK _ ?_; clear hK K) | (apply Exists.intro; refine ⟨fun z => ?_, hK _ ?_⟩; (first | done); clear hK K)))
    refine Two.Pq.mix5_loud rfl (fun K hK => ?_)
    go_simp
    refine hK _ _ ?_
    clear hK K c9 f9
    refine Two.Pq.mix5_done fun wx hx => ?_
    subst hx
    obtain ⟨w14, hw14⟩ : ∃ W, w13.setCell ⟨B, 9, none⟩ (.slice sa sn' sc) = W := ⟨_, rfl⟩
    rw [hw14] at HM14 HX14 ⊢
    clear hw14
    have hrb := HRb.out w14 HX14.out
    obtain ⟨⟨v0, z0⟩, ⟨v1, z1⟩, ⟨v2, z2⟩, ⟨v3, z3⟩, ⟨v4, z4⟩, ⟨v5, z5⟩, ⟨v6, z6⟩, ⟨v7, z7⟩⟩ := hrb.olds
    have y0 := hrb.go 0
    have y1 := hrb.go 1
    have y2 := hrb.go 2
    have y3 := hrb.go 3
    have y4 := hrb.go 4
    have y5 := hrb.go 5
    have y6 := hrb.go 6
    have y7 := hrb.go 7
    clear hrb
    go_wp2_with fail
    refine bodyPost_ret (res_results rfl _ _ R 0 N (.slice none 0 0) (.slice none 0 0) rfl ((HRb.out w14 HX14.out).put 0 N (.slice none 0 0) (.slice none 0 0))) rfl ?_
    have HF1 : Ending.returned (resv 0 N (.slice none 0 0) (.slice none 0 0)) = Ending.returned (resv (M.snap m ⟨o0, o1, o2, o3, o4, o5, o6, o7, o8, o9, kk⟩).1.e (M.snap m ⟨o0, o1, o2, o3, o4, o5, o6, o7, o8, o9, kk⟩).1.n (.slice none 0 0) (.slice none 0 0)) := by rw [HRES.out] <;> rfl
    have HF2 : Left G w (rbw w14 R 0 N (.slice none 0 0) (.slice none 0 0)) B n vn vu vq vg X { X with vs := .slice va vn' vc, us := us4, vp := .slice sa sn' sc, ps := X.ps ++ [(.slice ra rn rc, X.ls)] } (M.snap m ⟨o0, o1, o2, o3, o4, o5, o6, o7, o8, o9, kk⟩).2 := by
      rw [HRES.out]
      exact snap_left HLT.out HXG.out HM14.out (Ex.trans (Ex.of_below HE.out.b) HX14.out) HR3.out HR2.out HLE.out _ _ _ _
    unfold MutPost
    exact ⟨_, HF1, HF2⟩
end Go.Proofs.YtmapmeacjpoaoaaDoor
