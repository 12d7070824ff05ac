/- What the model's declassify does. -/
import Derived.Test.YtmapmeacjpoaoaaDoorPm18
namespace Go.Proofs.YtmapmeacjpoaoaaDoor
open Go Go.RowKit

/-- What decides a declassification. -/
def M.db (l1 l2 l3 : Bool) (h f1 f2 f3 : Int) (ke : Bool) : Int :=
  if !l1 || (!l2 || !l3) then 31 else if 0 < h then 36 else if f1 < 0 then 32 else if f2 < 0 || ke then 33 else if f3 < 0 then 32 else 0
theorem M.dbad_eq (us : List Nat) (gs : List Gr) (m : St) (o : Opr) : M.dbad us gs m o = M.db (L.leq us o.label o.level) (L.leq us o.to o.level) (gs.contains (o.level, o.label, o.to)) (m.has.getD o.to.toNat 0) (M.find (m.L.getD o.label.toNat []) o.bucket []) (M.find (m.L.getD o.label.toNat []) o.bucket o.key) (M.find (m.L.getD o.to.toNat []) o.bucket []) o.key.isEmpty := rfl
/-- A label's records, as they stay. -/
theorem Mem.fzA {G : Nat → Prop} {w : World} {B n : Nat} {vn vu vq vg : Value} {X : Mv} {m : St} (h : Mem G w B n vn vu vq vg X m) {i : Nat} (hi : i < n) : ∃ a c, w.cell? ⟨X.bA, i, none⟩ = some (.slice a (m.au.getD i []).length c) ∧ Fz G w (fun W => Rv W (.slice a (m.au.getD i []).length c) (m.au.getD i [])) := by
  obtain ⟨u, hu, hc, hs⟩ := h.mr.listA hi
  obtain ⟨a, c, rfl, -⟩ := Sl.shape hs
  refine ⟨a, c, hc, fun W hW => ?_⟩
  have h1 := own_len h.b.oA
  have h2 := h.b.nA
  have h3 := (h.f W hW).A i (by omega) (by omega)
  rw [List.getElem?_eq_getElem (by omega)] at hu
  rw [Option.some.inj hu] at h3
  have e : m.au.getD i [] = m.au[i]'(by omega) := by rw [List.getD_eq_getElem?_getD, List.getElem?_eq_getElem (by omega), Option.getD_some]
  rw [← e] at h3
  exact h3
theorem M.decl_bad {us : List Nat} {gs : List Gr} {m : St} {o : Opr} {c : Int} (h : M.dbad us gs m o = c) (hc : c ≠ 0) : M.declassify us gs m o = (M.bad c, m) := by
  unfold M.declassify
  rw [h, if_neg hc]
theorem M.decl_ok {us : List Nat} {gs : List Gr} {m : St} {o : Opr} (h : M.dbad us gs m o = 0) : M.declassify us gs m o = (⟨0, ((m.au.getD o.to.toNat []).length : Int), [], []⟩, { m with L := m.L.set o.to.toNat (M.with_ (m.L.getD o.to.toNat []) (o.bucket, o.key, M.dval m o)), au := m.au.set o.to.toNat (m.au.getD o.to.toNat [] ++ [M.drec m o]) }) := by
  unfold M.declassify
  rw [h, if_pos rfl]

set_option maxRecDepth 4000 in
set_option maxHeartbeats 4000000 in
theorem declassify_any (G : Nat → Prop) (w : World) (B n : Nat) (vn vu vq vg : Value) (X : Mv) (m : St) (o : Opr) (u : Value) (h : Mem G w B n vn vu vq vg X m) (us : List Nat) (gs : List Gr) (hU : Us w vu us) (hU64 : U64s us) (hn : us.length = n) (hG : Gs w vg gs) (hA : (m.L.getD o.label.toNat []).length ≤ 100000) (hAv : ∀ e ∈ m.L.getD o.label.toNat [], e.2.2.length ≤ 100000) (hC : (m.L.getD o.to.toNat []).length ≤ 100000) (hUk : (m.au.getD o.to.toNat []).length ≤ 1000) :
    Calls Tryd.prog 28 #[.pointer (some ⟨B, 0, none⟩), opv (o.put u), .bool false] w (MutPost G w B n vn vu vq vg X (M.declassify us gs m o).1 (M.declassify us gs m o).2) := by
  have hE := (Ent.box h.mr o u).alloc ((Below.refl _ _).alloc (Nat.le_refl _) (.cells #[.int .i64 0, .int .i64 0, (.slice none 0 0), .int .i64 0, .int .i64 0, .int .i64 0, .int .i64 0, (.slice none 0 0)] 45))
  have hR : Rb ((w.alloc (.cells (opc o u) 33)).alloc (.cells #[.int .i64 0, .int .i64 0, (.slice none 0 0), .int .i64 0, .int .i64 0, .int .i64 0, .int .i64 0, (.slice none 0 0)] 45)) (w.alloc (.cells (opc o u) 33)).heap.size 0 0 (.slice none 0 0) (.slice none 0 0) := heap_alloc_new _ _
  have hR2 : w.heap.size < (w.alloc (.cells (opc o u) 33)).heap.size := by simp
  have hR3 : (w.alloc (.cells (opc o u) 33)).heap.size < ((w.alloc (.cells (opc o u) 33)).alloc (.cells #[.int .i64 0, .int .i64 0, (.slice none 0 0), .int .i64 0, .int .i64 0, .int .i64 0, .int .i64 0, (.slice none 0 0)] 45)).heap.size := by simp
  obtain ⟨w2, hw2⟩ : ∃ w2, (w.alloc (.cells (opc o u) 33)).alloc (.cells #[.int .i64 0, .int .i64 0, (.slice none 0 0), .int .i64 0, .int .i64 0, .int .i64 0, .int .i64 0, (.slice none 0 0)] 45) = w2 := ⟨_, rfl⟩
  obtain ⟨R, hRR⟩ : ∃ R, (w.alloc (.cells (opc o u) 33)).heap.size = R := ⟨_, rfl⟩
  have hRQ : w.heap.size + 1 = R := by rw [← hRR]; simp
  obtain ⟨Qo, hQo⟩ : ∃ Qo, w.heap.size = Qo := ⟨_, rfl⟩
  rw [hw2] at hE hR hR3
  rw [hRR] at hR hR2 hR3
  have HE := Lib.hid hE
  have HR2 := Lib.hid hR2
  have HM := Lib.hid (h.wide hE.b (Nat.le_of_lt hR2) hR3)
  have HX : Hid (Ex (X.foot B) w2 w2) := Ex.refl _ _
  have HLT := Lib.hid h.lt
  have HXG := Lib.hid h.g
  have HNE := Lib.hid h.ne
  have HQF : Hid (¬ X.foot B Qo) := fun hf => by
    have := h.lt Qo (h.g Qo hf)
    omega
  have HRb : Hid (∀ W, Ex (X.foot B) w2 W → Rb W R 0 0 (.slice none 0 0) (.slice none 0 0)) := fun W hW => hR.ex hW fun hf => by
    have := h.lt R (h.g R hf)
    omega
  obtain ⟨o0, o1, o2, o3, o4, o5, o6, o7, o8, o9, kk⟩ := o
  have HOP := Lib.hid (fun W (hW : Ex (X.foot B) w2 W) => hE.atx hW (by rw [hQo]; exact HQF.out))
  simp only [] at HOP
  rw [hQo] at HOP
  have HUs := Lib.hid (fun W (hW : Below w2.heap.size w2 W) => hU.below (below_next hE.b hW))
  have HGs := Lib.hid (fun W (hW : Below w2.heap.size w2 W) => Three.Ss.below hG (below_next hE.b hW))
  have HU64 := Lib.hid hU64
  have HWB : Hid (M.dbad us gs m ⟨o0, o1, o2, o3, o4, o5, o6, o7, o8, o9, kk⟩ = _) := M.dbad_eq us gs m ⟨o0, o1, o2, o3, o4, o5, o6, o7, o8, o9, kk⟩
  simp only [] at HWB hA hC hUk hAv
  obtain ⟨A, hAA⟩ : ∃ l, m.L.getD o7.toNat [] = l := ⟨_, rfl⟩
  obtain ⟨T, hCC⟩ : ∃ l, m.L.getD o8.toNat [] = l := ⟨_, rfl⟩
  have HA := Lib.hid hAA
  have HT := Lib.hid hCC
  rw [hAA] at hA hAv HWB
  rw [hCC] at hC HWB
  have HAK := Lib.hid hA
  have HAV := Lib.hid hAv
  have HCK := Lib.hid hC
  have HUK := Lib.hid hUk
  obtain ⟨hx, hhx⟩ : ∃ z, m.has.getD o8.toNat 0 = z := ⟨_, rfl⟩
  have HHx := Lib.hid hhx
  rw [hhx] at HWB
  obtain ⟨f1, hf1⟩ : ∃ z, M.find A o4 [] = z := ⟨_, rfl⟩
  obtain ⟨f2, hf2⟩ : ∃ z, M.find A o4 o5 = z := ⟨_, rfl⟩
  obtain ⟨f3, hf3⟩ : ∃ z, M.find T o4 [] = z := ⟨_, rfl⟩
  have Hf1 := Lib.hid hf1
  have Hf2 := Lib.hid hf2
  have Hf3 := Lib.hid hf3
  rw [hf1, hf2, hf3] at HWB
  have HLB : ∀ a : Int, L.leq us a o1 = true → ∃ x : Nat, a = (x : Int) ∧ x < n := fun a hl => by
    cases hlab : L.lab us a with
    | false => rw [L.leq_of_not_left hlab] at hl; cases hl
    | true =>
      obtain ⟨-, h1, h2⟩ := L.lab_iff.1 hlab
      exact ⟨a.toNat, by omega, by omega⟩
  have HLB1 := Lib.hid (HLB o7)
  have HLB2 := Lib.hid (HLB o8)
  obtain ⟨au, cu, hvu, -⟩ := hU.shape
  obtain ⟨ag, cg, hvg, -⟩ := hG.shape
  obtain ⟨gn, hgn⟩ : ∃ k, gs.length = k := ⟨_, rfl⟩
  rw [hn] at hvu
  rw [hgn] at hvg
  have HVU := Lib.hid hvu
  have HVG := Lib.hid hvg
  rw [hvu] at HUs
  rw [hvg] at HGs
  have HQ1 : Hid (∀ W, Below w2.heap.size w2 W → Calls Tryd.prog 31 #[.slice au n cu, .int .i64 o7, .int .i64 o1] W fun e w' => e = .returned (.bool (L.leq us o7 o1)) ∧ W = w') := fun W hW => refLeq_any (.slice au n cu) us o7 o1 W (HUs.out W hW) HU64.out
  have HQ2 : Hid (∀ W, Below w2.heap.size w2 W → Calls Tryd.prog 31 #[.slice au n cu, .int .i64 o8, .int .i64 o1] W fun e w' => e = .returned (.bool (L.leq us o8 o1)) ∧ W = w') := fun W hW => refLeq_any (.slice au n cu) us o8 o1 W (HUs.out W hW) HU64.out
  have HQ3 : Hid (∀ W, Below w2.heap.size w2 W → Calls Tryd.prog 53 #[.slice ag gn cg, gv (o1, o7, o8)] W fun e w' => e = .returned (.bool (gs.contains (o1, o7, o8))) ∧ Below W.heap.size W w') := fun W hW => refMay_any (.slice ag gn cg) gs (o1, o7, o8) W (HGs.out W hW)
  obtain ⟨l1, hl1⟩ : ∃ b, L.leq us o7 o1 = b := ⟨_, rfl⟩
  obtain ⟨l2, hl2⟩ : ∃ b, L.leq us o8 o1 = b := ⟨_, rfl⟩
  obtain ⟨l3, hl3⟩ : ∃ b, gs.contains (o1, o7, o8) = b := ⟨_, rfl⟩
  rw [hl1] at HQ1 HWB HLB1
  rw [hl2] at HQ2 HWB HLB2
  rw [hl3] at HQ3 HWB
  clear hA hC hUk hAv hAA hCC hhx hf1 hf2 hf3 HLB hl1 hl2 hl3 hU hG hU64 hgn hn HUs HGs hvu hvg
  simp only [Op11.put, opc] at hw2 ⊢
  rw [hQo] at hRQ HE
  clear h hE hR hR2 hR3 hRR
  go_enter Tryd.func28, Tryd.ntmps28
  go_wp2_with fail
  clear hw2 hQo hRQ
  cases l1 with
  | false =>
    refine wp_region_mix ext_grow [(0, false), (1, false), (2, false), (3, false), (4, false), (5, false), (6, false), (7, false), (8, false), (9, false), (10, false), (11, false), (12, false), (13, false), (14, false), (15, false), (16, false), (17, false), (18, false), (19, false), (20, false), (21, false), (22, false), (23, false), (24, false), (25, false), (26, false), (27, false), (28, false), (29, false), (30, false), (31, false), (32, false), (33, false), (34, false), (35, false), (36, false), (37, false), (38, false), (39, false)] (by kernel_rfl) (by kernel_rfl) ?_
    have hxd : Hid (Below w2.heap.size w2 w2.drew) := Below.drew (Below.refl _ _)
    have HMq := Lib.hid (HM.out.below (Below.drew (Below.refl _ _)))
    have HXq : Hid (Ex (X.foot B) w2 w2.drew) := HX.out.trans (Ex.of_below (Below.drew (Below.refl _ _)))
    clear HM HX
    generalize w2.drew = wd at *
    have HM := HMq
    have HX := HXq
    clear HMq HXq
    have c1 : ∀ z : Later wd, z.1.cell? ⟨B, 1, none⟩ = some (.slice au n cu) := fun z => by rw [← HVU.out]; exact (HM.out.b.below z.2).cells.c1
    have c3 : ∀ z : Later wd, z.1.cell? ⟨B, 3, none⟩ = some (.slice ag gn cg) := fun z => by rw [← HVG.out]; exact (HM.out.b.below z.2).cells.c3
    have p1 : ∀ z : Later wd, z.1.cell? ⟨Qo, 1, none⟩ = some (.int .i64 o1) := fun z => (HOP.out z.1 (HX.out.trans (Ex.of_below z.2))).2.1
    have p7 : ∀ z : Later wd, z.1.cell? ⟨Qo, 7, none⟩ = some (.int .i64 o7) := fun z => (HOP.out z.1 (HX.out.trans (Ex.of_below z.2))).2.2.2.2.2.2.2.1
    have p8 : ∀ z : Later wd, z.1.cell? ⟨Qo, 8, none⟩ = some (.int .i64 o8) := fun z => (HOP.out z.1 (HX.out.trans (Ex.of_below z.2))).2.2.2.2.2.2.2.2.1
    have HL1 : Hid (∀ z : Later wd, Calls Tryd.prog 31 #[.slice au n cu, .int .i64 o7, .int .i64 o1] z.1 fun e w' => e = .returned (.bool false) ∧ Ext z.1 w') := fun z => (HQ1.out z.1 (below_next hxd.out z.2)).mono fun e w' ⟨h1, h2⟩ => ⟨h1, ext_of_eq h2⟩
    have HL2 : Hid (∀ z : Later wd, Calls Tryd.prog 31 #[.slice au n cu, .int .i64 o8, .int .i64 o1] z.1 fun e w' => e = .returned (.bool l2) ∧ Ext z.1 w') := fun z => (HQ2.out z.1 (below_next hxd.out z.2)).mono fun e w' ⟨h1, h2⟩ => ⟨h1, ext_of_eq h2⟩
    have HL3 : Hid (∀ z : Later wd, Calls Tryd.prog 53 #[.slice ag gn cg, gv (o1, o7, o8)] z.1 fun e w' => e = .returned (.bool l3) ∧ Ext z.1 w') := fun z => HQ3.out z.1 (below_next hxd.out z.2)
    repeat (refine mix_soft rfl (fun K hK => ?_); go_simp; (first | (refine hK _ ?_; clear hK K) | (apply Exists.intro; refine ⟨fun z => ?_, hK _ ?_⟩; (first | (go_at_call 31; with_reducible exact HL1.out z) | (go_at_call 31; with_reducible exact HL2.out z) | (go_at_call 53; exact HL3.out z)); clear hK K)))
    refine mix_done fun w3 hx => ?_
    have HMq := Lib.hid (HM.out.below hx)
    have HXq : Hid (Ex (X.foot B) w2 w3) := HX.out.trans (Ex.of_below hx)
    clear HM HX hx
    have HM := HMq
    have HX := HXq
    clear HMq HXq
    clear c1 c3 p1 p7 p8 HL1 HL2 HL3 hxd
    have HRES : Hid (M.declassify us gs m ⟨o0, o1, o2, o3, o4, o5, o6, o7, o8, o9, kk⟩ = (M.bad 31, m)) := M.decl_bad (by rw [HWB.out]; simp [M.db]) (by decide)
    have st := Lib.hid (not_any 31 w3)
    go_wp2_with fail
    refine st.out.mono ?_
    rintro e wn ⟨rfl, hx⟩
    have HMn := Lib.hid (HM.out.below hx)
    have HXn : Hid (Ex (X.foot B) w2 wn) := HX.out.trans (Ex.of_below hx)
    clear st hx HM HX
    have hrb := HRb.out wn HXn.out
    obtain ⟨⟨v0, z0⟩, ⟨v1, z1⟩, ⟨v2, z2⟩, ⟨v3, z3⟩, ⟨v4, z4⟩, ⟨v5, z5⟩, ⟨v6, z6⟩, ⟨v7, z7⟩⟩ := hrb.olds
    have y0 := hrb.go 0
    have y1 := hrb.go 1
    have y2 := hrb.go 2
    have y3 := hrb.go 3
    have y4 := hrb.go 4
    have y5 := hrb.go 5
    have y6 := hrb.go 6
    have y7 := hrb.go 7
    clear hrb
    go_wp2_with fail
    refine bodyPost_ret (res_results rfl _ _ R 31 0 (.slice none 0 0) (.slice none 0 0) rfl ((HRb.out wn HXn.out).put 31 0 (.slice none 0 0) (.slice none 0 0))) rfl ?_
    have HF1 : Ending.returned (resv 31 0 (.slice none 0 0) (.slice none 0 0)) = Ending.returned (resv (M.declassify us gs m ⟨o0, o1, o2, o3, o4, o5, o6, o7, o8, o9, kk⟩).1.e (M.declassify us gs m ⟨o0, o1, o2, o3, o4, o5, o6, o7, o8, o9, kk⟩).1.n (.slice none 0 0) (.slice none 0 0)) := by rw [HRES.out] <;> rfl
    have HF2 : Left G w (rbw wn R 31 0 (.slice none 0 0) (.slice none 0 0)) B n vn vu vq vg X X (M.declassify us gs m ⟨o0, o1, o2, o3, o4, o5, o6, o7, o8, o9, kk⟩).2 := by
      rw [HRES.out]
      exact Left.res1 HLT.out HXG.out HMn.out (Ex.trans (Ex.of_below HE.out.b) HXn.out) (Nat.le_of_lt HR2.out) rfl 31 0 (.slice none 0 0) (.slice none 0 0)
    unfold MutPost
    exact ⟨_, HF1, HF2⟩
  | true =>
    cases l2 with
    | false =>
      refine wp_region_mix ext_grow [(0, false), (1, false), (2, false), (3, false), (4, false), (5, false), (6, false), (7, false), (8, false), (9, false), (10, false), (11, false), (12, false), (13, false), (14, false), (15, false), (16, false), (17, false), (18, false), (19, false), (20, false), (21, false), (22, false), (23, false), (24, false), (25, false), (26, false), (27, false), (28, false), (29, false), (30, false), (31, false), (32, false), (33, false), (34, false), (35, false), (36, false), (37, false), (38, false), (39, false)] (by kernel_rfl) (by kernel_rfl) ?_
      have hxd : Hid (Below w2.heap.size w2 w2.drew) := Below.drew (Below.refl _ _)
      have HMq := Lib.hid (HM.out.below (Below.drew (Below.refl _ _)))
      have HXq : Hid (Ex (X.foot B) w2 w2.drew) := HX.out.trans (Ex.of_below (Below.drew (Below.refl _ _)))
      clear HM HX
      generalize w2.drew = wd at *
      have HM := HMq
      have HX := HXq
      clear HMq HXq
      have c1 : ∀ z : Later wd, z.1.cell? ⟨B, 1, none⟩ = some (.slice au n cu) := fun z => by rw [← HVU.out]; exact (HM.out.b.below z.2).cells.c1
      have c3 : ∀ z : Later wd, z.1.cell? ⟨B, 3, none⟩ = some (.slice ag gn cg) := fun z => by rw [← HVG.out]; exact (HM.out.b.below z.2).cells.c3
      have p1 : ∀ z : Later wd, z.1.cell? ⟨Qo, 1, none⟩ = some (.int .i64 o1) := fun z => (HOP.out z.1 (HX.out.trans (Ex.of_below z.2))).2.1
      have p7 : ∀ z : Later wd, z.1.cell? ⟨Qo, 7, none⟩ = some (.int .i64 o7) := fun z => (HOP.out z.1 (HX.out.trans (Ex.of_below z.2))).2.2.2.2.2.2.2.1
      have p8 : ∀ z : Later wd, z.1.cell? ⟨Qo, 8, none⟩ = some (.int .i64 o8) := fun z => (HOP.out z.1 (HX.out.trans (Ex.of_below z.2))).2.2.2.2.2.2.2.2.1
      have HL1 : Hid (∀ z : Later wd, Calls Tryd.prog 31 #[.slice au n cu, .int .i64 o7, .int .i64 o1] z.1 fun e w' => e = .returned (.bool true) ∧ Ext z.1 w') := fun z => (HQ1.out z.1 (below_next hxd.out z.2)).mono fun e w' ⟨h1, h2⟩ => ⟨h1, ext_of_eq h2⟩
      have HL2 : Hid (∀ z : Later wd, Calls Tryd.prog 31 #[.slice au n cu, .int .i64 o8, .int .i64 o1] z.1 fun e w' => e = .returned (.bool false) ∧ Ext z.1 w') := fun z => (HQ2.out z.1 (below_next hxd.out z.2)).mono fun e w' ⟨h1, h2⟩ => ⟨h1, ext_of_eq h2⟩
      have HL3 : Hid (∀ z : Later wd, Calls Tryd.prog 53 #[.slice ag gn cg, gv (o1, o7, o8)] z.1 fun e w' => e = .returned (.bool l3) ∧ Ext z.1 w') := fun z => HQ3.out z.1 (below_next hxd.out z.2)
      repeat (refine mix_soft rfl (fun K hK => ?_); go_simp; (first | (refine hK _ ?_; clear hK K) | (apply Exists.intro; refine ⟨fun z => ?_, hK _ ?_⟩; (first | (go_at_call 31; with_reducible exact HL1.out z) | (go_at_call 31; with_reducible exact HL2.out z) | (go_at_call 53; exact HL3.out z)); clear hK K)))
      refine mix_done fun w3 hx => ?_
      have HMq := Lib.hid (HM.out.below hx)
      have HXq : Hid (Ex (X.foot B) w2 w3) := HX.out.trans (Ex.of_below hx)
      clear HM HX hx
      have HM := HMq
      have HX := HXq
      clear HMq HXq
      clear c1 c3 p1 p7 p8 HL1 HL2 HL3 hxd
      have HRES : Hid (M.declassify us gs m ⟨o0, o1, o2, o3, o4, o5, o6, o7, o8, o9, kk⟩ = (M.bad 31, m)) := M.decl_bad (by rw [HWB.out]; simp [M.db]) (by decide)
      have st := Lib.hid (not_any 31 w3)
      go_wp2_with fail
      refine st.out.mono ?_
      rintro e wn ⟨rfl, hx⟩
      have HMn := Lib.hid (HM.out.below hx)
      have HXn : Hid (Ex (X.foot B) w2 wn) := HX.out.trans (Ex.of_below hx)
      clear st hx HM HX
      have hrb := HRb.out wn HXn.out
      obtain ⟨⟨v0, z0⟩, ⟨v1, z1⟩, ⟨v2, z2⟩, ⟨v3, z3⟩, ⟨v4, z4⟩, ⟨v5, z5⟩, ⟨v6, z6⟩, ⟨v7, z7⟩⟩ := hrb.olds
      have y0 := hrb.go 0
      have y1 := hrb.go 1
      have y2 := hrb.go 2
      have y3 := hrb.go 3
      have y4 := hrb.go 4
      have y5 := hrb.go 5
      have y6 := hrb.go 6
      have y7 := hrb.go 7
      clear hrb
      go_wp2_with fail
      refine bodyPost_ret (res_results rfl _ _ R 31 0 (.slice none 0 0) (.slice none 0 0) rfl ((HRb.out wn HXn.out).put 31 0 (.slice none 0 0) (.slice none 0 0))) rfl ?_
      have HF1 : Ending.returned (resv 31 0 (.slice none 0 0) (.slice none 0 0)) = Ending.returned (resv (M.declassify us gs m ⟨o0, o1, o2, o3, o4, o5, o6, o7, o8, o9, kk⟩).1.e (M.declassify us gs m ⟨o0, o1, o2, o3, o4, o5, o6, o7, o8, o9, kk⟩).1.n (.slice none 0 0) (.slice none 0 0)) := by rw [HRES.out] <;> rfl
      have HF2 : Left G w (rbw wn R 31 0 (.slice none 0 0) (.slice none 0 0)) B n vn vu vq vg X X (M.declassify us gs m ⟨o0, o1, o2, o3, o4, o5, o6, o7, o8, o9, kk⟩).2 := by
        rw [HRES.out]
        exact Left.res1 HLT.out HXG.out HMn.out (Ex.trans (Ex.of_below HE.out.b) HXn.out) (Nat.le_of_lt HR2.out) rfl 31 0 (.slice none 0 0) (.slice none 0 0)
      unfold MutPost
      exact ⟨_, HF1, HF2⟩
    | true =>
      cases l3 with
      | false =>
        refine wp_region_mix ext_grow [(0, false), (1, false), (2, false), (3, false), (4, false), (5, false), (6, false), (7, false), (8, false), (9, false), (10, false), (11, false), (12, false), (13, false), (14, false), (15, false), (16, false), (17, false), (18, false), (19, false), (20, false), (21, false), (22, false), (23, false), (24, false), (25, false), (26, false), (27, false), (28, false), (29, false), (30, false), (31, false), (32, false), (33, false), (34, false), (35, false), (36, false), (37, false), (38, false), (39, false)] (by kernel_rfl) (by kernel_rfl) ?_
        have hxd : Hid (Below w2.heap.size w2 w2.drew) := Below.drew (Below.refl _ _)
        have HMq := Lib.hid (HM.out.below (Below.drew (Below.refl _ _)))
        have HXq : Hid (Ex (X.foot B) w2 w2.drew) := HX.out.trans (Ex.of_below (Below.drew (Below.refl _ _)))
        clear HM HX
        generalize w2.drew = wd at *
        have HM := HMq
        have HX := HXq
        clear HMq HXq
        have c1 : ∀ z : Later wd, z.1.cell? ⟨B, 1, none⟩ = some (.slice au n cu) := fun z => by rw [← HVU.out]; exact (HM.out.b.below z.2).cells.c1
        have c3 : ∀ z : Later wd, z.1.cell? ⟨B, 3, none⟩ = some (.slice ag gn cg) := fun z => by rw [← HVG.out]; exact (HM.out.b.below z.2).cells.c3
        have p1 : ∀ z : Later wd, z.1.cell? ⟨Qo, 1, none⟩ = some (.int .i64 o1) := fun z => (HOP.out z.1 (HX.out.trans (Ex.of_below z.2))).2.1
        have p7 : ∀ z : Later wd, z.1.cell? ⟨Qo, 7, none⟩ = some (.int .i64 o7) := fun z => (HOP.out z.1 (HX.out.trans (Ex.of_below z.2))).2.2.2.2.2.2.2.1
        have p8 : ∀ z : Later wd, z.1.cell? ⟨Qo, 8, none⟩ = some (.int .i64 o8) := fun z => (HOP.out z.1 (HX.out.trans (Ex.of_below z.2))).2.2.2.2.2.2.2.2.1
        have HL1 : Hid (∀ z : Later wd, Calls Tryd.prog 31 #[.slice au n cu, .int .i64 o7, .int .i64 o1] z.1 fun e w' => e = .returned (.bool true) ∧ Ext z.1 w') := fun z => (HQ1.out z.1 (below_next hxd.out z.2)).mono fun e w' ⟨h1, h2⟩ => ⟨h1, ext_of_eq h2⟩
        have HL2 : Hid (∀ z : Later wd, Calls Tryd.prog 31 #[.slice au n cu, .int .i64 o8, .int .i64 o1] z.1 fun e w' => e = .returned (.bool true) ∧ Ext z.1 w') := fun z => (HQ2.out z.1 (below_next hxd.out z.2)).mono fun e w' ⟨h1, h2⟩ => ⟨h1, ext_of_eq h2⟩
        have HL3 : Hid (∀ z : Later wd, Calls Tryd.prog 53 #[.slice ag gn cg, gv (o1, o7, o8)] z.1 fun e w' => e = .returned (.bool false) ∧ Ext z.1 w') := fun z => HQ3.out z.1 (below_next hxd.out z.2)
        repeat (refine mix_soft rfl (fun K hK => ?_); go_simp; (first | (refine hK _ ?_; clear hK K) | (apply Exists.intro; refine ⟨fun z => ?_, hK _ ?_⟩; (first | (go_at_call 31; with_reducible exact HL1.out z) | (go_at_call 31; with_reducible exact HL2.out z) | (go_at_call 53; exact HL3.out z)); clear hK K)))
        refine mix_done fun w3 hx => ?_
        have HMq := Lib.hid (HM.out.below hx)
        have HXq : Hid (Ex (X.foot B) w2 w3) := HX.out.trans (Ex.of_below hx)
        clear HM HX hx
        have HM := HMq
        have HX := HXq
        clear HMq HXq
        clear c1 c3 p1 p7 p8 HL1 HL2 HL3 hxd
        have HRES : Hid (M.declassify us gs m ⟨o0, o1, o2, o3, o4, o5, o6, o7, o8, o9, kk⟩ = (M.bad 31, m)) := M.decl_bad (by rw [HWB.out]; simp [M.db]) (by decide)
        have st := Lib.hid (not_any 31 w3)
        go_wp2_with fail
        refine st.out.mono ?_
        rintro e wn ⟨rfl, hx⟩
        have HMn := Lib.hid (HM.out.below hx)
        have HXn : Hid (Ex (X.foot B) w2 wn) := HX.out.trans (Ex.of_below hx)
        clear st hx HM HX
        have hrb := HRb.out wn HXn.out
        obtain ⟨⟨v0, z0⟩, ⟨v1, z1⟩, ⟨v2, z2⟩, ⟨v3, z3⟩, ⟨v4, z4⟩, ⟨v5, z5⟩, ⟨v6, z6⟩, ⟨v7, z7⟩⟩ := hrb.olds
        have y0 := hrb.go 0
        have y1 := hrb.go 1
        have y2 := hrb.go 2
        have y3 := hrb.go 3
        have y4 := hrb.go 4
        have y5 := hrb.go 5
        have y6 := hrb.go 6
        have y7 := hrb.go 7
        clear hrb
        go_wp2_with fail
        refine bodyPost_ret (res_results rfl _ _ R 31 0 (.slice none 0 0) (.slice none 0 0) rfl ((HRb.out wn HXn.out).put 31 0 (.slice none 0 0) (.slice none 0 0))) rfl ?_
        have HF1 : Ending.returned (resv 31 0 (.slice none 0 0) (.slice none 0 0)) = Ending.returned (resv (M.declassify us gs m ⟨o0, o1, o2, o3, o4, o5, o6, o7, o8, o9, kk⟩).1.e (M.declassify us gs m ⟨o0, o1, o2, o3, o4, o5, o6, o7, o8, o9, kk⟩).1.n (.slice none 0 0) (.slice none 0 0)) := by rw [HRES.out] <;> rfl
        have HF2 : Left G w (rbw wn R 31 0 (.slice none 0 0) (.slice none 0 0)) B n vn vu vq vg X X (M.declassify us gs m ⟨o0, o1, o2, o3, o4, o5, o6, o7, o8, o9, kk⟩).2 := by
          rw [HRES.out]
          exact Left.res1 HLT.out HXG.out HMn.out (Ex.trans (Ex.of_below HE.out.b) HXn.out) (Nat.le_of_lt HR2.out) rfl 31 0 (.slice none 0 0) (.slice none 0 0)
        unfold MutPost
        exact ⟨_, HF1, HF2⟩
      | true =>
        refine wp_region_mix ext_grow [(0, false), (1, false), (2, false), (3, false), (4, false), (5, false), (6, false), (7, false), (8, false), (9, false), (10, false), (11, false), (12, false), (13, false), (14, false), (15, false), (16, false), (17, false), (18, false), (19, false), (20, false), (21, false), (22, false), (23, false), (24, false), (25, false), (26, false), (27, false), (28, false), (29, false), (30, false), (31, false), (32, false), (33, false), (34, false), (35, false), (36, false), (37, false), (38, false), (39, false)] (by kernel_rfl) (by kernel_rfl) ?_
        have hxd : Hid (Below w2.heap.size w2 w2.drew) := Below.drew (Below.refl _ _)
        have HMq := Lib.hid (HM.out.below (Below.drew (Below.refl _ _)))
        have HXq : Hid (Ex (X.foot B) w2 w2.drew) := HX.out.trans (Ex.of_below (Below.drew (Below.refl _ _)))
        clear HM HX
        generalize w2.drew = wd at *
        have HM := HMq
        have HX := HXq
        clear HMq HXq
        have c1 : ∀ z : Later wd, z.1.cell? ⟨B, 1, none⟩ = some (.slice au n cu) := fun z => by rw [← HVU.out]; exact (HM.out.b.below z.2).cells.c1
        have c3 : ∀ z : Later wd, z.1.cell? ⟨B, 3, none⟩ = some (.slice ag gn cg) := fun z => by rw [← HVG.out]; exact (HM.out.b.below z.2).cells.c3
        have p1 : ∀ z : Later wd, z.1.cell? ⟨Qo, 1, none⟩ = some (.int .i64 o1) := fun z => (HOP.out z.1 (HX.out.trans (Ex.of_below z.2))).2.1
        have p7 : ∀ z : Later wd, z.1.cell? ⟨Qo, 7, none⟩ = some (.int .i64 o7) := fun z => (HOP.out z.1 (HX.out.trans (Ex.of_below z.2))).2.2.2.2.2.2.2.1
        have p8 : ∀ z : Later wd, z.1.cell? ⟨Qo, 8, none⟩ = some (.int .i64 o8) := fun z => (HOP.out z.1 (HX.out.trans (Ex.of_below z.2))).2.2.2.2.2.2.2.2.1
        have HL1 : Hid (∀ z : Later wd, Calls Tryd.prog 31 #[.slice au n cu, .int .i64 o7, .int .i64 o1] z.1 fun e w' => e = .returned (.bool true) ∧ Ext z.1 w') := fun z => (HQ1.out z.1 (below_next hxd.out z.2)).mono fun e w' ⟨h1, h2⟩ => ⟨h1, ext_of_eq h2⟩
        have HL2 : Hid (∀ z : Later wd, Calls Tryd.prog 31 #[.slice au n cu, .int .i64 o8, .int .i64 o1] z.1 fun e w' => e = .returned (.bool true) ∧ Ext z.1 w') := fun z => (HQ2.out z.1 (below_next hxd.out z.2)).mono fun e w' ⟨h1, h2⟩ => ⟨h1, ext_of_eq h2⟩
        have HL3 : Hid (∀ z : Later wd, Calls Tryd.prog 53 #[.slice ag gn cg, gv (o1, o7, o8)] z.1 fun e w' => e = .returned (.bool true) ∧ Ext z.1 w') := fun z => HQ3.out z.1 (below_next hxd.out z.2)
        repeat (refine mix_soft rfl (fun K hK => ?_); go_simp; (first | (refine hK _ ?_; clear hK K) | (apply Exists.intro; refine ⟨fun z => ?_, hK _ ?_⟩; (first | (go_at_call 31; with_reducible exact HL1.out z) | (go_at_call 31; with_reducible exact HL2.out z) | (go_at_call 53; exact HL3.out z)); clear hK K)))
        refine mix_done fun w3 hx => ?_
        have HMq := Lib.hid (HM.out.below hx)
        have HXq : Hid (Ex (X.foot B) w2 w3) := HX.out.trans (Ex.of_below hx)
        clear HM HX hx
        have HM := HMq
        have HX := HXq
        clear HMq HXq
        clear c1 c3 p1 p7 p8 HL1 HL2 HL3 hxd
        obtain ⟨xl, rfl, hxl⟩ := HLB1.out rfl
        obtain ⟨xt, rfl, hxt⟩ := HLB2.out rfl
        have HXxl := Lib.hid hxl
        have HXxt := Lib.hid hxt
        have hl0 : (0 : Int) ≤ (xl : Int) := by omega
        have hlI : (xl : Int) < (n : Int) := by omega
        have ht0 : (0 : Int) ≤ (xt : Int) := by omega
        have htI : (xt : Int) < (n : Int) := by omega
        simp only [Int.toNat_natCast] at HA HT HHx HAK HCK HUK HAV
        clear HLB1 HLB2 HQ1 HQ2 HQ3
        have c6 : w3.cell? ⟨B, 6, none⟩ = some (slv X.bH n) := HM.out.b.cells.c6
        obtain ⟨-, -, -, -, -, -, -, -, p8, -, -⟩ := HOP.out w3 HX.out
        have hh : w3.cell? ⟨X.bH, xt, none⟩ = some (.int .i64 hx) := by
          rw [← HHx.out]
          exact HM.out.mr.hasAt hxt
        go_wp2_with fail
        go_quiet (fail)
        have HMq := Lib.hid (HM.out.below (below_drewN w3 nq))
        have HXq : Hid (Ex (X.foot B) w2 (w3.drewN nq)) := HX.out.trans (Ex.of_below (below_drewN w3 nq))
        clear HM HX c6 p8 hh
        generalize w3.drewN nq = w4 at *
        have HM := HMq
        have HX := HXq
        clear HMq HXq
        by_cases hg : 0 < hx
        · have dg : decide (0 < hx) = true := by simp [hg]
          have HRES : Hid (M.declassify us gs m ⟨o0, o1, o2, o3, o4, o5, o6, (xl : Int), (xt : Int), o9, kk⟩ = (M.bad 36, m)) := M.decl_bad (by rw [HWB.out]; simp [M.db, hg]) (by decide)
          have st := Lib.hid (not_any 36 w4)
          go_wp2_with fail
          refine st.out.mono ?_
          rintro e wn ⟨rfl, hx⟩
          have HMn := Lib.hid (HM.out.below hx)
          have HXn : Hid (Ex (X.foot B) w2 wn) := HX.out.trans (Ex.of_below hx)
          clear st hx HM HX
          have hrb := HRb.out wn HXn.out
          obtain ⟨⟨v0, z0⟩, ⟨v1, z1⟩, ⟨v2, z2⟩, ⟨v3, z3⟩, ⟨v4, z4⟩, ⟨v5, z5⟩, ⟨v6, z6⟩, ⟨v7, z7⟩⟩ := hrb.olds
          have y0 := hrb.go 0
          have y1 := hrb.go 1
          have y2 := hrb.go 2
          have y3 := hrb.go 3
          have y4 := hrb.go 4
          have y5 := hrb.go 5
          have y6 := hrb.go 6
          have y7 := hrb.go 7
          clear hrb
          go_wp2_with fail
          refine bodyPost_ret (res_results rfl _ _ R 36 0 (.slice none 0 0) (.slice none 0 0) rfl ((HRb.out wn HXn.out).put 36 0 (.slice none 0 0) (.slice none 0 0))) rfl ?_
          have HF1 : Ending.returned (resv 36 0 (.slice none 0 0) (.slice none 0 0)) = Ending.returned (resv (M.declassify us gs m ⟨o0, o1, o2, o3, o4, o5, o6, (xl : Int), (xt : Int), o9, kk⟩).1.e (M.declassify us gs m ⟨o0, o1, o2, o3, o4, o5, o6, (xl : Int), (xt : Int), o9, kk⟩).1.n (.slice none 0 0) (.slice none 0 0)) := by rw [HRES.out] <;> rfl
          have HF2 : Left G w (rbw wn R 36 0 (.slice none 0 0) (.slice none 0 0)) B n vn vu vq vg X X (M.declassify us gs m ⟨o0, o1, o2, o3, o4, o5, o6, (xl : Int), (xt : Int), o9, kk⟩).2 := by
            rw [HRES.out]
            exact Left.res1 HLT.out HXG.out HMn.out (Ex.trans (Ex.of_below HE.out.b) HXn.out) (Nat.le_of_lt HR2.out) rfl 36 0 (.slice none 0 0) (.slice none 0 0)
          unfold MutPost
          exact ⟨_, HF1, HF2⟩
        · have dg : decide (0 < hx) = false := by simp [hg]
          go_wp2_with fail
          refine wp_region_mix ext_grow [(0, false), (1, false), (2, false), (3, false), (4, false), (5, false), (6, false), (7, false), (8, false), (9, false), (10, false), (11, false)] (by kernel_rfl) (by kernel_rfl) ?_
          have HMq := Lib.hid (HM.out.below (Below.drew (Below.refl _ _)))
          have HXq : Hid (Ex (X.foot B) w2 w4.drew) := HX.out.trans (Ex.of_below (Below.drew (Below.refl _ _)))
          clear HM HX
          generalize w4.drew = wd at *
          have HM := HMq
          have HX := HXq
          clear HMq HXq
          obtain ⟨la, lc, hlc, hlf⟩ := HM.out.fzL HXxl.out
          rw [HA.out] at hlc hlf
          have HLF := Lib.hid hlf
          have hbL := HM.out.lt X.bL (HM.out.g _ (by unfold Mv.foot; simp))
          have c4 : ∀ z : Later wd, z.1.cell? ⟨B, 4, none⟩ = some (slv X.bL n) := fun z => (HM.out.b.below z.2).cells.c4
          have hl : ∀ z : Later wd, z.1.cell? ⟨X.bL, xl, none⟩ = some (.slice la A.length lc) := fun z => (z.2.cell (p := ⟨X.bL, xl, none⟩) hbL).trans hlc
          have p7 : ∀ z : Later wd, z.1.cell? ⟨Qo, 7, none⟩ = some (.int .i64 (xl : Int)) := fun z => (HOP.out z.1 (HX.out.trans (Ex.of_below z.2))).2.2.2.2.2.2.2.1
          have p4 : ∀ z : Later wd, z.1.cell? ⟨Qo, 4, none⟩ = some (.string (str o4)) := fun z => (HOP.out z.1 (HX.out.trans (Ex.of_below z.2))).2.2.2.2.1
          have HLy : Hid (∀ z : Later wd, Calls Tryd.prog 48 #[.slice la A.length lc, .string (str o4), .string (str [])] z.1 fun e w' => e = .returned (.int .i64 f1) ∧ Ext z.1 w') := fun z => by
            have h := mfind_any (.slice la A.length lc) A o4 [] z.1 (HLF.out.at z.2)
            rw [Hf1.out] at h
            exact h.mono fun e w' ⟨h1, h2⟩ => ⟨h1, ext_of_eq h2⟩
          obtain ⟨N, hN⟩ : ∃ N, A.length = N := ⟨_, rfl⟩
          rw [hN] at hl HLy
          clear hlc hlf HLF hbL hN
          repeat (refine mix_soft rfl (fun K hK => ?_); go_simp; (first | (refine hK _ ?_; clear hK K) | (apply Exists.intro; refine ⟨fun z => ?_, hK _ ?_⟩; (first | (go_at_call 48; exact HLy.out z)); clear hK K)))
          refine mix_done fun w5 hx => ?_
          have HMq := Lib.hid (HM.out.below hx)
          have HXq : Hid (Ex (X.foot B) w2 w5) := HX.out.trans (Ex.of_below hx)
          clear HM HX hx
          have HM := HMq
          have HX := HXq
          clear HMq HXq
          clear c4 hl p7 p4  HLy
          by_cases h1 : f1 < 0
          · have d1 : decide (f1 < 0) = true := by simp [h1]
            have HRES : Hid (M.declassify us gs m ⟨o0, o1, o2, o3, o4, o5, o6, (xl : Int), (xt : Int), o9, kk⟩ = (M.bad 32, m)) := M.decl_bad (by rw [HWB.out]; simp [M.db, show ¬ 0 < hx by omega, h1]) (by decide)
            have st := Lib.hid (not_any 32 w5)
            go_wp2_with fail
            refine st.out.mono ?_
            rintro e wn ⟨rfl, hx⟩
            have HMn := Lib.hid (HM.out.below hx)
            have HXn : Hid (Ex (X.foot B) w2 wn) := HX.out.trans (Ex.of_below hx)
            clear st hx HM HX
            have hrb := HRb.out wn HXn.out
            obtain ⟨⟨v0, z0⟩, ⟨v1, z1⟩, ⟨v2, z2⟩, ⟨v3, z3⟩, ⟨v4, z4⟩, ⟨v5, z5⟩, ⟨v6, z6⟩, ⟨v7, z7⟩⟩ := hrb.olds
            have y0 := hrb.go 0
            have y1 := hrb.go 1
            have y2 := hrb.go 2
            have y3 := hrb.go 3
            have y4 := hrb.go 4
            have y5 := hrb.go 5
            have y6 := hrb.go 6
            have y7 := hrb.go 7
            clear hrb
            go_wp2_with fail
            refine bodyPost_ret (res_results rfl _ _ R 32 0 (.slice none 0 0) (.slice none 0 0) rfl ((HRb.out wn HXn.out).put 32 0 (.slice none 0 0) (.slice none 0 0))) rfl ?_
            have HF1 : Ending.returned (resv 32 0 (.slice none 0 0) (.slice none 0 0)) = Ending.returned (resv (M.declassify us gs m ⟨o0, o1, o2, o3, o4, o5, o6, (xl : Int), (xt : Int), o9, kk⟩).1.e (M.declassify us gs m ⟨o0, o1, o2, o3, o4, o5, o6, (xl : Int), (xt : Int), o9, kk⟩).1.n (.slice none 0 0) (.slice none 0 0)) := by rw [HRES.out] <;> rfl
            have HF2 : Left G w (rbw wn R 32 0 (.slice none 0 0) (.slice none 0 0)) B n vn vu vq vg X X (M.declassify us gs m ⟨o0, o1, o2, o3, o4, o5, o6, (xl : Int), (xt : Int), o9, kk⟩).2 := by
              rw [HRES.out]
              exact Left.res1 HLT.out HXG.out HMn.out (Ex.trans (Ex.of_below HE.out.b) HXn.out) (Nat.le_of_lt HR2.out) rfl 32 0 (.slice none 0 0) (.slice none 0 0)
            unfold MutPost
            exact ⟨_, HF1, HF2⟩
          · have d1 : decide (f1 < 0) = false := by simp [h1]
            go_wp2_with fail
            refine wp_region_mix ext_grow [(0, false), (1, false), (2, false), (3, false), (4, false), (5, false), (6, false), (7, false), (8, false), (9, false), (10, false), (11, false), (12, false), (13, false)] (by kernel_rfl) (by kernel_rfl) ?_
            have HMq := Lib.hid (HM.out.below (Below.drew (Below.refl _ _)))
            have HXq : Hid (Ex (X.foot B) w2 w5.drew) := HX.out.trans (Ex.of_below (Below.drew (Below.refl _ _)))
            clear HM HX
            generalize w5.drew = wd at *
            have HM := HMq
            have HX := HXq
            clear HMq HXq
            obtain ⟨la, lc, hlc, hlf⟩ := HM.out.fzL HXxl.out
            rw [HA.out] at hlc hlf
            have HLF := Lib.hid hlf
            have hbL := HM.out.lt X.bL (HM.out.g _ (by unfold Mv.foot; simp))
            have c4 : ∀ z : Later wd, z.1.cell? ⟨B, 4, none⟩ = some (slv X.bL n) := fun z => (HM.out.b.below z.2).cells.c4
            have hl : ∀ z : Later wd, z.1.cell? ⟨X.bL, xl, none⟩ = some (.slice la A.length lc) := fun z => (z.2.cell (p := ⟨X.bL, xl, none⟩) hbL).trans hlc
            have p7 : ∀ z : Later wd, z.1.cell? ⟨Qo, 7, none⟩ = some (.int .i64 (xl : Int)) := fun z => (HOP.out z.1 (HX.out.trans (Ex.of_below z.2))).2.2.2.2.2.2.2.1
            have p4 : ∀ z : Later wd, z.1.cell? ⟨Qo, 4, none⟩ = some (.string (str o4)) := fun z => (HOP.out z.1 (HX.out.trans (Ex.of_below z.2))).2.2.2.2.1
            have p5 : ∀ z : Later wd, z.1.cell? ⟨Qo, 5, none⟩ = some (.string (str o5)) := fun z => (HOP.out z.1 (HX.out.trans (Ex.of_below z.2))).2.2.2.2.2.1
            have HLy : Hid (∀ z : Later wd, Calls Tryd.prog 48 #[.slice la A.length lc, .string (str o4), .string (str o5)] z.1 fun e w' => e = .returned (.int .i64 f2) ∧ Ext z.1 w') := fun z => by
              have h := mfind_any (.slice la A.length lc) A o4 o5 z.1 (HLF.out.at z.2)
              rw [Hf2.out] at h
              exact h.mono fun e w' ⟨h1, h2⟩ => ⟨h1, ext_of_eq h2⟩
            obtain ⟨N, hN⟩ : ∃ N, A.length = N := ⟨_, rfl⟩
            rw [hN] at hl HLy
            clear hlc hlf HLF hbL hN
            repeat (refine mix_soft rfl (fun K hK => ?_); go_simp; (first | (refine hK _ ?_; clear hK K) | (apply Exists.intro; refine ⟨fun z => ?_, hK _ ?_⟩; (first | (go_at_call 48; exact HLy.out z)); clear hK K)))
            refine mix_done fun w6 hx => ?_
            have HMq := Lib.hid (HM.out.below hx)
            have HXq : Hid (Ex (X.foot B) w2 w6) := HX.out.trans (Ex.of_below hx)
            clear HM HX hx
            have HM := HMq
            have HX := HXq
            clear HMq HXq
            clear c4 hl p7 p4 p5 HLy
            obtain ⟨-, -, -, -, -, p5, -⟩ := HOP.out w6 HX.out
            by_cases h2 : f2 < 0
            · have d2 : decide (f2 < 0) = true := by simp [h2]
              have HRES : Hid (M.declassify us gs m ⟨o0, o1, o2, o3, o4, o5, o6, (xl : Int), (xt : Int), o9, kk⟩ = (M.bad 33, m)) := M.decl_bad (by rw [HWB.out]; simp [M.db, show ¬ 0 < hx by omega, show ¬ f1 < 0 by omega, h2]) (by decide)
              have st := Lib.hid (not_any 33 w6)
              go_wp2_with fail
              refine st.out.mono ?_
              rintro e wn ⟨rfl, hx⟩
              have HMn := Lib.hid (HM.out.below hx)
              have HXn : Hid (Ex (X.foot B) w2 wn) := HX.out.trans (Ex.of_below hx)
              clear st hx HM HX
              have hrb := HRb.out wn HXn.out
              obtain ⟨⟨v0, z0⟩, ⟨v1, z1⟩, ⟨v2, z2⟩, ⟨v3, z3⟩, ⟨v4, z4⟩, ⟨v5, z5⟩, ⟨v6, z6⟩, ⟨v7, z7⟩⟩ := hrb.olds
              have y0 := hrb.go 0
              have y1 := hrb.go 1
              have y2 := hrb.go 2
              have y3 := hrb.go 3
              have y4 := hrb.go 4
              have y5 := hrb.go 5
              have y6 := hrb.go 6
              have y7 := hrb.go 7
              clear hrb
              go_wp2_with fail
              refine bodyPost_ret (res_results rfl _ _ R 33 0 (.slice none 0 0) (.slice none 0 0) rfl ((HRb.out wn HXn.out).put 33 0 (.slice none 0 0) (.slice none 0 0))) rfl ?_
              have HF1 : Ending.returned (resv 33 0 (.slice none 0 0) (.slice none 0 0)) = Ending.returned (resv (M.declassify us gs m ⟨o0, o1, o2, o3, o4, o5, o6, (xl : Int), (xt : Int), o9, kk⟩).1.e (M.declassify us gs m ⟨o0, o1, o2, o3, o4, o5, o6, (xl : Int), (xt : Int), o9, kk⟩).1.n (.slice none 0 0) (.slice none 0 0)) := by rw [HRES.out] <;> rfl
              have HF2 : Left G w (rbw wn R 33 0 (.slice none 0 0) (.slice none 0 0)) B n vn vu vq vg X X (M.declassify us gs m ⟨o0, o1, o2, o3, o4, o5, o6, (xl : Int), (xt : Int), o9, kk⟩).2 := by
                rw [HRES.out]
                exact Left.res1 HLT.out HXG.out HMn.out (Ex.trans (Ex.of_below HE.out.b) HXn.out) (Nat.le_of_lt HR2.out) rfl 33 0 (.slice none 0 0) (.slice none 0 0)
              unfold MutPost
              exact ⟨_, HF1, HF2⟩
            · have d2 : decide (f2 < 0) = false := by simp [h2]
              by_cases hke : o5 = []
              · subst hke
                have de : ([] : List UInt8).isEmpty = true := rfl
                have HRES : Hid (M.declassify us gs m ⟨o0, o1, o2, o3, o4, [], o6, (xl : Int), (xt : Int), o9, kk⟩ = (M.bad 33, m)) := M.decl_bad (by rw [HWB.out]; simp [M.db, show ¬ 0 < hx by omega, show ¬ f1 < 0 by omega, h2]) (by decide)
                have st := Lib.hid (not_any 33 w6)
                go_wp2_with fail
                refine st.out.mono ?_
                rintro e wn ⟨rfl, hx⟩
                have HMn := Lib.hid (HM.out.below hx)
                have HXn : Hid (Ex (X.foot B) w2 wn) := HX.out.trans (Ex.of_below hx)
                clear st hx HM HX
                have hrb := HRb.out wn HXn.out
                obtain ⟨⟨v0, z0⟩, ⟨v1, z1⟩, ⟨v2, z2⟩, ⟨v3, z3⟩, ⟨v4, z4⟩, ⟨v5, z5⟩, ⟨v6, z6⟩, ⟨v7, z7⟩⟩ := hrb.olds
                have y0 := hrb.go 0
                have y1 := hrb.go 1
                have y2 := hrb.go 2
                have y3 := hrb.go 3
                have y4 := hrb.go 4
                have y5 := hrb.go 5
                have y6 := hrb.go 6
                have y7 := hrb.go 7
                clear hrb
                go_wp2_with fail
                refine bodyPost_ret (res_results rfl _ _ R 33 0 (.slice none 0 0) (.slice none 0 0) rfl ((HRb.out wn HXn.out).put 33 0 (.slice none 0 0) (.slice none 0 0))) rfl ?_
                have HF1 : Ending.returned (resv 33 0 (.slice none 0 0) (.slice none 0 0)) = Ending.returned (resv (M.declassify us gs m ⟨o0, o1, o2, o3, o4, [], o6, (xl : Int), (xt : Int), o9, kk⟩).1.e (M.declassify us gs m ⟨o0, o1, o2, o3, o4, [], o6, (xl : Int), (xt : Int), o9, kk⟩).1.n (.slice none 0 0) (.slice none 0 0)) := by rw [HRES.out] <;> rfl
                have HF2 : Left G w (rbw wn R 33 0 (.slice none 0 0) (.slice none 0 0)) B n vn vu vq vg X X (M.declassify us gs m ⟨o0, o1, o2, o3, o4, [], o6, (xl : Int), (xt : Int), o9, kk⟩).2 := by
                  rw [HRES.out]
                  exact Left.res1 HLT.out HXG.out HMn.out (Ex.trans (Ex.of_below HE.out.b) HXn.out) (Nat.le_of_lt HR2.out) rfl 33 0 (.slice none 0 0) (.slice none 0 0)
                unfold MutPost
                exact ⟨_, HF1, HF2⟩
              · have de : o5.isEmpty = false := by simp [hke]
                go_wp2_with fail
                refine wp_region_mix ext_grow [(0, false), (1, false), (2, false), (3, false), (4, false), (5, false), (6, false), (7, false), (8, false), (9, false), (10, false), (11, false)] (by kernel_rfl) (by kernel_rfl) ?_
                have HMq := Lib.hid (HM.out.below (Below.drew (Below.refl _ _)))
                have HXq : Hid (Ex (X.foot B) w2 w6.drew) := HX.out.trans (Ex.of_below (Below.drew (Below.refl _ _)))
                clear HM HX
                generalize w6.drew = wd at *
                have HM := HMq
                have HX := HXq
                clear HMq HXq
                obtain ⟨la, lc, hlc, hlf⟩ := HM.out.fzL HXxt.out
                rw [HT.out] at hlc hlf
                have HLF := Lib.hid hlf
                have hbL := HM.out.lt X.bL (HM.out.g _ (by unfold Mv.foot; simp))
                have c4 : ∀ z : Later wd, z.1.cell? ⟨B, 4, none⟩ = some (slv X.bL n) := fun z => (HM.out.b.below z.2).cells.c4
                have hl : ∀ z : Later wd, z.1.cell? ⟨X.bL, xt, none⟩ = some (.slice la T.length lc) := fun z => (z.2.cell (p := ⟨X.bL, xt, none⟩) hbL).trans hlc
                have p8 : ∀ z : Later wd, z.1.cell? ⟨Qo, 8, none⟩ = some (.int .i64 (xt : Int)) := fun z => (HOP.out z.1 (HX.out.trans (Ex.of_below z.2))).2.2.2.2.2.2.2.2.1
                have p4 : ∀ z : Later wd, z.1.cell? ⟨Qo, 4, none⟩ = some (.string (str o4)) := fun z => (HOP.out z.1 (HX.out.trans (Ex.of_below z.2))).2.2.2.2.1
                have HLy : Hid (∀ z : Later wd, Calls Tryd.prog 48 #[.slice la T.length lc, .string (str o4), .string (str [])] z.1 fun e w' => e = .returned (.int .i64 f3) ∧ Ext z.1 w') := fun z => by
                  have h := mfind_any (.slice la T.length lc) T o4 [] z.1 (HLF.out.at z.2)
                  rw [Hf3.out] at h
                  exact h.mono fun e w' ⟨h1, h2⟩ => ⟨h1, ext_of_eq h2⟩
                obtain ⟨N, hN⟩ : ∃ N, T.length = N := ⟨_, rfl⟩
                rw [hN] at hl HLy
                clear hlc hlf HLF hbL hN
                repeat (refine mix_soft rfl (fun K hK => ?_); go_simp; (first | (refine hK _ ?_; clear hK K) | (apply Exists.intro; refine ⟨fun z => ?_, hK _ ?_⟩; (first | (go_at_call 48; exact HLy.out z)); clear hK K)))
                refine mix_done fun w7 hx => ?_
                have HMq := Lib.hid (HM.out.below hx)
                have HXq : Hid (Ex (X.foot B) w2 w7) := HX.out.trans (Ex.of_below hx)
                clear HM HX hx
                have HM := HMq
                have HX := HXq
                clear HMq HXq
                clear c4 hl p8 p4  HLy
                clear p5
                by_cases h3 : f3 < 0
                · have d3 : decide (f3 < 0) = true := by simp [h3]
                  have HRES : Hid (M.declassify us gs m ⟨o0, o1, o2, o3, o4, o5, o6, (xl : Int), (xt : Int), o9, kk⟩ = (M.bad 32, m)) := M.decl_bad (by rw [HWB.out]; simp [M.db, show ¬ 0 < hx by omega, show ¬ f1 < 0 by omega, show ¬ f2 < 0 by omega, h3, de]) (by decide)
                  have st := Lib.hid (not_any 32 w7)
                  go_wp2_with fail
                  refine st.out.mono ?_
                  rintro e wn ⟨rfl, hx⟩
                  have HMn := Lib.hid (HM.out.below hx)
                  have HXn : Hid (Ex (X.foot B) w2 wn) := HX.out.trans (Ex.of_below hx)
                  clear st hx HM HX
                  have hrb := HRb.out wn HXn.out
                  obtain ⟨⟨v0, z0⟩, ⟨v1, z1⟩, ⟨v2, z2⟩, ⟨v3, z3⟩, ⟨v4, z4⟩, ⟨v5, z5⟩, ⟨v6, z6⟩, ⟨v7, z7⟩⟩ := hrb.olds
                  have y0 := hrb.go 0
                  have y1 := hrb.go 1
                  have y2 := hrb.go 2
                  have y3 := hrb.go 3
                  have y4 := hrb.go 4
                  have y5 := hrb.go 5
                  have y6 := hrb.go 6
                  have y7 := hrb.go 7
                  clear hrb
                  go_wp2_with fail
                  refine bodyPost_ret (res_results rfl _ _ R 32 0 (.slice none 0 0) (.slice none 0 0) rfl ((HRb.out wn HXn.out).put 32 0 (.slice none 0 0) (.slice none 0 0))) rfl ?_
                  have HF1 : Ending.returned (resv 32 0 (.slice none 0 0) (.slice none 0 0)) = Ending.returned (resv (M.declassify us gs m ⟨o0, o1, o2, o3, o4, o5, o6, (xl : Int), (xt : Int), o9, kk⟩).1.e (M.declassify us gs m ⟨o0, o1, o2, o3, o4, o5, o6, (xl : Int), (xt : Int), o9, kk⟩).1.n (.slice none 0 0) (.slice none 0 0)) := by rw [HRES.out] <;> rfl
                  have HF2 : Left G w (rbw wn R 32 0 (.slice none 0 0) (.slice none 0 0)) B n vn vu vq vg X X (M.declassify us gs m ⟨o0, o1, o2, o3, o4, o5, o6, (xl : Int), (xt : Int), o9, kk⟩).2 := by
                    rw [HRES.out]
                    exact Left.res1 HLT.out HXG.out HMn.out (Ex.trans (Ex.of_below HE.out.b) HXn.out) (Nat.le_of_lt HR2.out) rfl 32 0 (.slice none 0 0) (.slice none 0 0)
                  unfold MutPost
                  exact ⟨_, HF1, HF2⟩
                · have d3 : decide (f3 < 0) = false := by simp [h3]
                  have hdb := M.decl_ok (us := us) (gs := gs) (m := m) (o := ⟨o0, o1, o2, o3, o4, o5, o6, (xl : Int), (xt : Int), o9, kk⟩) (by rw [HWB.out]; simp [M.db, show ¬ 0 < hx by omega, show ¬ f1 < 0 by omega, show ¬ f2 < 0 by omega, show ¬ f3 < 0 by omega, de])
                  obtain ⟨k, hfk, hkA⟩ := M.find_lt (l := A) (b := o4) (k := o5) (by rw [Hf2.out]; omega)
                  rw [Hf2.out] at hfk
                  subst hfk
                  obtain ⟨s, hs⟩ : ∃ s, A[k].2.2 = s := ⟨_, rfl⟩
                  have HDV : Hid (M.dval m ⟨o0, o1, o2, o3, o4, o5, o6, (xl : Int), (xt : Int), o9, kk⟩ = s) := by
                    unfold Hid M.dval
                    simp only [Int.toNat_natCast, HA.out, Hf2.out]
                    rw [List.getD_eq_getElem?_getD, List.getElem?_eq_getElem hkA, Option.getD_some, hs]
                  have hsl : s.length ≤ 100000 := by
                    rw [← hs]
                    exact HAV.out _ (List.getElem_mem _)
                  have HSL := Lib.hid hsl
                  obtain ⟨Q, hQ⟩ : ∃ q, m.au.getD xt [] = q := ⟨_, rfl⟩
                  have HQ := Lib.hid hQ
                  rw [hQ] at HUK
                  have HRES : Hid (M.declassify us gs m ⟨o0, o1, o2, o3, o4, o5, o6, (xl : Int), (xt : Int), o9, kk⟩ = (⟨0, (Q.length : Int), [], []⟩, { m with L := m.L.set xt (M.with_ T (o4, o5, s)), au := m.au.set xt (Q ++ [⟨o1, (xl : Int), (xt : Int), o4, o5, C.of s⟩]) })) := by
                    unfold Hid
                    rw [hdb]
                    unfold M.drec
                    simp only [HDV.out, Int.toNat_natCast, HT.out, HQ.out]
                  clear hdb hsl hQ HWB Hf1 Hf2 Hf3 hg dg h1 d1 h2 d2
                  obtain ⟨la, lc, hlc, hlf⟩ := HM.out.fzL HXxl.out
                  rw [HA.out] at hlc hlf
                  obtain ⟨b, off, rfl, hcs⟩ := Es.at hlf.here hkA
                  obtain ⟨-, -, e2⟩ := hcs w7 (Below.refl _ _)
                  rw [hs] at e2
                  have hk0 : (0 : Int) ≤ (k : Int) := by omega
                  obtain ⟨N, hN⟩ : ∃ N, A.length = N := ⟨_, rfl⟩
                  rw [hN] at hlc
                  have hkI : (k : Int) < (N : Int) := by omega
                  have c4 : w7.cell? ⟨B, 4, none⟩ = some (slv X.bL n) := HM.out.b.cells.c4
                  obtain ⟨-, -, -, -, -, -, -, p7, -, -, -⟩ := HOP.out w7 HX.out
                  clear hlf hcs hs hN hkA
                  go_wp2_with fail
                  go_quiet (fail)
                  have HMq := Lib.hid (HM.out.below (below_drewN w7 nq))
                  have HXq : Hid (Ex (X.foot B) w2 (w7.drewN nq)) := HX.out.trans (Ex.of_below (below_drewN w7 nq))
                  clear HM HX c4 p7 hlc e2 hk0 hkI h3 d3
                  generalize w7.drewN nq = w8 at *
                  have HM := HMq
                  have HX := HXq
                  clear HMq HXq
                  go_wp2_with fail
                  refine Two.Ph.wp_region_mix3 Two.Ph.eq_grow (ex_grow' (fun k => k = X.bL)) (fun _ _ h => h ▸ Ex.refl _ _) [20, 22] [(0, 0), (1, 0), (2, 0), (3, 0), (4, 0), (5, 0), (6, 0), (7, 0), (8, 0), (9, 2), (10, 0), (11, 2), (12, 2), (13, 2), (14, 2), (15, 2), (16, 2), (17, 2), (18, 2), (19, 2), (20, 1), (21, 0), (22, 1)] (by kernel_rfl) (by kernel_rfl) ?_
                  have HMq := Lib.hid (HM.out.below (Below.drew (Below.refl _ _)))
                  have HXq : Hid (Ex (X.foot B) w2 w8.drew) := HX.out.trans (Ex.of_below (Below.drew (Below.refl _ _)))
                  clear HM HX
                  generalize w8.drew = wd at *
                  have HM := HMq
                  have HX := HXq
                  clear HMq HXq
                  obtain ⟨la, lc, hlc, hlf⟩ := HM.out.fzL HXxt.out
                  rw [HT.out] at hlc hlf
                  have HLF := Lib.hid hlf
                  have c4 : ∀ z : LaterR (Ex (fun k => k = X.bL)) wd, z.1.cell? ⟨B, 4, none⟩ = some (slv X.bL n) := fun z => (ex_cell z.2 HM.out.b.lt (fun e => HNE.out.1 e.symm)).trans HM.out.b.cells.c4
                  have c4' : wd.cell? ⟨B, 4, none⟩ = some (slv X.bL n) := HM.out.b.cells.c4
                  have p8 : ∀ z : LaterR (Ex (fun k => k = X.bL)) wd, z.1.cell? ⟨Qo, 8, none⟩ = some (.int .i64 (xt : Int)) := fun z => (HOP.out z.1 (HX.out.trans (z.2.mono fun k _ e => by rw [e]; unfold Mv.foot; simp))).2.2.2.2.2.2.2.2.1
                  obtain ⟨-, -, -, -, p4, p5, -, -, p8', -, -⟩ := HOP.out wd HX.out
                  have HLW := Lib.hid (mwith_any (.slice la T.length lc) T o4 o5 s wd hlf.here HCK.out)
                  obtain ⟨N, hN⟩ : ∃ N, T.length = N := ⟨_, rfl⟩
                  rw [hN] at hlc HLW
                  clear hlf hN
                  repeat ((first | refine Two.Ph.mix3_soft rfl (fun K hK => ?_) | refine Two.Ph.mix3_soon rfl (fun K hK => ?_)); go_simp; (first | (refine hK _ ?_; clear hK K) | (apply Exists.intro; refine ⟨fun z => ?_, hK _ ?_⟩; (first | done); clear hK K)))
                  clear c4 c4' p8 p8' p4 p5 hlc HLF
                  refine Two.Ph.mix3_loud rfl (fun K hK => ?_)
                  go_simp
                  refine ⟨Ex.refl _ _, HLW.out.mono ?_⟩
                  rintro e w9 ⟨v9, rfl, hown, hx9⟩
                  refine ⟨_, rfl, Ex.of_below hx9, hK _ _ ?_⟩
                  clear hK K HLW
                  obtain ⟨b9, N9, c9, rfl⟩ : ∃ a N c, v9 = .slice a N c := by
                    obtain ⟨a, c, e, -⟩ := (Eo.es hown).shape
                    exact ⟨a, _, c, e⟩
                  have HN9 : Hid (Fz (fun k => G k ∨ k = R) w9 (fun W => Es W (.slice b9 N9 c9) (M.with_ T (o4, o5, s)))) := Eo.fz hown (fun k hk => HM.out.lt k hk)
                  have HMq := Lib.hid (HM.out.below hx9)
                  have HXq : Hid (Ex (X.foot B) w2 w9) := HX.out.trans (Ex.of_below hx9)
                  clear HM HX hown hx9
                  obtain ⟨⟨q8, hq8⟩, hf8⟩ := own_go1 HMq.out.b.oL HXxt.out
                  repeat ((first | refine Two.Ph.mix3_soft rfl (fun K hK => ?_) | refine Two.Ph.mix3_soon rfl (fun K hK => ?_)); go_simp; (first | (refine hK _ ?_; clear hK K) | (apply Exists.intro; refine ⟨fun z => ?_, hK _ ?_⟩; (first | done); clear hK K)))
                  refine Two.Ph.mix3_loud rfl (fun K hK => ?_)
                  go_simp
                  refine ⟨Ex.setCell (G := fun k => k = X.bL) _ _ _ rfl _, hK _ _ ?_⟩
                  clear hK K
                  refine Two.Ph.mix3_done fun wx hx => ?_
                  subst hx
                  have HM := Lib.hid (HMq.out.setL xt (.slice b9 N9 c9) (M.with_ T (o4, o5, s)) HN9.out)
                  have HX : Hid (Ex (X.foot B) w2 (w9.setCell ⟨X.bL, xt, none⟩ (.slice b9 N9 c9))) := HXq.out.trans (Ex.setCell w9 X.bL xt (by unfold Mv.foot; simp) _)
                  clear HMq HXq HN9 hq8 hf8
                  obtain ⟨w10, hw10⟩ : ∃ W, w9.setCell ⟨X.bL, xt, none⟩ (.slice b9 N9 c9) = W := ⟨_, rfl⟩
                  rw [hw10] at HM HX ⊢
                  clear hw10
                  go_wp2_with fail
                  refine Two.Ph.wp_region_mix3 Two.Ph.eq_grow Two.Ph.any_grow (fun _ _ _ => trivial) [9] [(0, 2), (1, 0), (2, 0), (3, 0), (4, 2), (5, 0), (6, 2), (7, 2), (8, 2), (9, 1), (10, 0)] (by kernel_rfl) (by kernel_rfl) ?_
                  have HMq := Lib.hid (HM.out.below (Below.drew (Below.refl _ _)))
                  have HXq : Hid (Ex (X.foot B) w2 w10.drew) := HX.out.trans (Ex.of_below (Below.drew (Below.refl _ _)))
                  clear HM HX
                  generalize w10.drew = w17 at *
                  have HM := HMq
                  have HX := HXq
                  clear HMq HXq
                  obtain ⟨aa, ac, hac, haf⟩ := HM.out.fzA HXxt.out
                  simp only [] at hac haf
                  rw [HQ.out] at hac haf
                  have HAF := Lib.hid haf.here
                  obtain ⟨q, hq⟩ : ∃ q, Q.length = q := ⟨_, rfl⟩
                  have HQL := Lib.hid hq
                  rw [hq] at hac HAF HUK HRES
                  have c5 : w17.cell? ⟨B, 5, none⟩ = some (slv X.bA n) := HM.out.b.cells.c5
                  obtain ⟨-, -, -, -, -, -, -, -, p8, -, -⟩ := HOP.out w17 HX.out
                  clear haf hq
                  repeat ((first | refine Two.Ph.mix3_soft rfl (fun K hK => ?_) | refine Two.Ph.mix3_soon rfl (fun K hK => ?_)); go_simp; (first | (refine hK _ ?_; clear hK K) | (apply Exists.intro; refine ⟨fun z => ?_, hK _ ?_⟩; (first | done); clear hK K)))
                  clear c5 p8 hac
                  refine Two.Ph.mix3_loud rfl (fun K hK => ?_)
                  refine ite_yes rfl ?_
                  rintro ⟨_, rfl⟩
                  refine hOper_append_st _ _ 43 rfl w17.heap.size 112 _ 6 64 Tryd.underlying43 infoRec rfl (by decide) (.slice none 0 0) 0 [] rfl (World.ownsRow_nil _ _ _ _) (.slice aa q ac) q (recCells Q) rfl (by have h := HAF.out; unfold Rv at h; rw [HQL.out] at h; exact h) (rec_oneCell _) (by unfold maxLen; have := HUK.out; omega) (by have := HUK.out; omega) (Nat.le_refl _) ?_
                  intro v11 w11 hown hgr hsame
                  have hown := by simpa using hown
                  have HB11 : Hid (Below w17.heap.size w17 w11) := (Below.refl _ _).grown hgr (Nat.le_refl _) (by simp [Value.ownBlock])
                  have HO11 : Hid (w11.ownsRow w17.heap.size 112 6 v11 q (recCells Q)) := hown
                  refine ⟨trivial, hK _ _ ?_⟩
                  clear hK K hown hgr hsame HAF
                  repeat ((first | refine Two.Ph.mix3_soft rfl (fun K hK => ?_) | refine Two.Ph.mix3_soon rfl (fun K hK => ?_)); go_simp; (first | (refine hK _ ?_; clear hK K) | (apply Exists.intro; refine ⟨fun z => ?_, hK _ ?_⟩; (first | done); clear hK K)))
                  refine Two.Ph.mix3_done fun wx hx => ?_
                  subst hx
                  go_wp2_with fail
                  refine Two.Ph.wp_region_mix3 Two.Ph.eq_grow Two.Ph.any_grow (fun _ _ _ => trivial) [14, 15] [(0, 0), (1, 0), (2, 2), (3, 0), (4, 2), (5, 0), (6, 2), (7, 0), (8, 2), (9, 0), (10, 2), (11, 2), (12, 2), (13, 2), (14, 1), (15, 1), (16, 0)] (by kernel_rfl) (by kernel_rfl) ?_
                  have HOd := Lib.hid (ownsRow.below HO11.out (Below.drew (Below.refl _ _)))
                  have HBd := Lib.hid (below_next HB11.out (Below.drew (Below.refl _ _)))
                  clear HO11 HB11
                  generalize w11.drew = wd at *
                  obtain ⟨-, p1, -, -, p4, p5, -, p7, p8, -, -⟩ := HOP.out wd (HX.out.trans (Ex.of_below HBd.out))
                  have HDG := Lib.hid (digest_any s HSL.out wd)
                  repeat ((first | refine Two.Ph.mix3_soft rfl (fun K hK => ?_) | refine Two.Ph.mix3_soon rfl (fun K hK => ?_)); go_simp; (first | (refine hK _ ?_; clear hK K) | (apply Exists.intro; refine ⟨fun z => ?_, hK _ ?_⟩; (first | done); clear hK K)))
                  refine Two.Ph.mix3_soon rfl (fun K hK => ?_)
                  go_simp
                  refine ⟨_, HDG.out, hK _ ?_⟩
                  clear hK K
                  repeat ((first | refine Two.Ph.mix3_soft rfl (fun K hK => ?_) | refine Two.Ph.mix3_soon rfl (fun K hK => ?_)); go_simp; (first | (refine hK _ ?_; clear hK K) | (apply Exists.intro; refine ⟨fun z => ?_, hK _ ?_⟩; (first | done); clear hK K)))
                  clear p1 p4 p5 p7 p8 HDG
                  refine Two.Ph.mix3_loud rfl (fun K hK => ?_)
                  go_simp
                  refine hK _ _ ?_
                  clear hK K
                  have hxa : Below wd.heap.size wd (wd.alloc (.cells #[.int .i64 o1, .int .i64 (xl : Int), .int .i64 (xt : Int), .string (str o4), .string (str o5), .int .u32 (C.of s : Nat)] 112)) := (Below.refl _ _).alloc (Nat.le_refl _) _
                  have HSR : Hid (Sl (wd.alloc (.cells #[.int .i64 o1, .int .i64 (xl : Int), .int .i64 (xt : Int), .string (str o4), .string (str o5), .int .u32 (C.of s : Nat)] 112)) 6 1 (.slice (some ⟨wd.heap.size, 0, none⟩) 1 1) (recCells [(⟨o1, (xl : Int), (xt : Int), o4, o5, C.of s⟩ : Rec)])) := Sl.lit wd 112 6 1 #[.int .i64 o1, .int .i64 (xl : Int), .int .i64 (xt : Int), .string (str o4), .string (str o5), .int .u32 (C.of s : Nat)] (0, 0) rfl (by decide)
                  have HOa := Lib.hid (ownsRow.below HOd.out hxa)
                  have HBa := Lib.hid (below_next HBd.out hxa)
                  clear HOd hxa HBd
                  repeat ((first | refine Two.Ph.mix3_soft rfl (fun K hK => ?_) | refine Two.Ph.mix3_soon rfl (fun K hK => ?_)); go_simp; (first | (refine hK _ ?_; clear hK K) | (apply Exists.intro; refine ⟨fun z => ?_, hK _ ?_⟩; (first | done); clear hK K)))
                  refine Two.Ph.mix3_loud rfl (fun K hK => ?_)
                  refine ite_yes rfl ?_
                  rintro ⟨_, rfl⟩
                  refine hOper_append_st _ _ 43 rfl w17.heap.size 112 _ 6 64 Tryd.underlying43 infoRec rfl (by decide) v11 q (recCells Q) rfl HOa.out (.slice (some ⟨wd.heap.size, 0, none⟩) 1 1) 1 (recCells [(⟨o1, (xl : Int), (xt : Int), o4, o5, C.of s⟩ : Rec)]) rfl HSR.out (rec_oneCell _) (by unfold maxLen; have := HUK.out; omega) (by have := HUK.out; omega) HBa.out.size ?_
                  intro v12 w12 hown hgr hsame
                  have hge := ownBlock_ge HOa.out
                  have hxb : Below w17.heap.size w17 w12 := HBa.out.grown hgr HBa.out.size (fun g hg => hge g hg)
                  rw [rec_append] at hown
                  have HRV : Hid (Fz (fun k => G k ∨ k = R) w12 (fun W => Rv W v12 (Q ++ [(⟨o1, (xl : Int), (xt : Int), o4, o5, C.of s⟩ : Rec)]))) := by
                    have h := Fz.own hown (G := fun k => G k ∨ k = R) (fun k hk => HM.out.lt k hk)
                    intro W hW
                    have h2 := h W hW
                    unfold Rv
                    rw [List.length_append, HQL.out]
                    exact h2
                  obtain ⟨b12, c12, hv12, -⟩ := (Sl.of_owns hown).shape
                  have HMq := Lib.hid (HM.out.below hxb)
                  have HXq : Hid (Ex (X.foot B) w2 w12) := HX.out.trans (Ex.of_below hxb)
                  refine ⟨trivial, hK _ _ ?_⟩
                  clear hK K hown hgr hsame hge hxb HM HX HOa HSR HBa
                  subst hv12
                  obtain ⟨N12, hN12⟩ : ∃ k, q + 1 = k := ⟨_, rfl⟩
                  rw [hN12] at HRV ⊢
                  have hwr : IntKind.i64.wrap ((N12 : Int) - 1) = (q : Int) := by
                    have := HUK.out
                    rw [IntKind.wrap_i64]
                    omega
                  have HM := HMq
                  have HX := HXq
                  clear HMq HXq hN12
                  repeat ((first | refine Two.Ph.mix3_soft rfl (fun K hK => ?_) | refine Two.Ph.mix3_soon rfl (fun K hK => ?_)); go_simp; (first | (refine hK _ ?_; clear hK K) | (apply Exists.intro; refine ⟨fun z => ?_, hK _ ?_⟩; (first | done); clear hK K)))
                  refine Two.Ph.mix3_done fun wx hx => ?_
                  subst hx
                  go_wp2_with fail
                  refine Two.Ph.wp_region_mix3 Two.Ph.eq_grow (ex_grow' (fun k => k = X.bA)) (fun _ _ h => h ▸ Ex.refl _ _) [8] [(0, 2), (1, 2), (2, 2), (3, 2), (4, 2), (5, 2), (6, 2), (7, 2), (8, 1)] (by kernel_rfl) (by kernel_rfl) ?_
                  have HMq := Lib.hid (HM.out.below (Below.drew (Below.refl _ _)))
                  have HXq : Hid (Ex (X.foot B) w2 w12.drew) := HX.out.trans (Ex.of_below (Below.drew (Below.refl _ _)))
                  clear HM HX
                  have HDR : Hid (Below w12.heap.size w12 w12.drew) := Below.drew (Below.refl _ _)
                  generalize w12.drew = wd at *
                  have HM := HMq
                  have HX := HXq
                  clear HMq HXq
                  have c5 : wd.cell? ⟨B, 5, none⟩ = some (slv X.bA n) := HM.out.b.cells.c5
                  obtain ⟨-, -, -, -, -, -, -, -, p8, -, -⟩ := HOP.out wd HX.out
                  obtain ⟨⟨q8, hq8⟩, hf8⟩ := own_go1 HM.out.b.oA HXxt.out
                  repeat ((first | refine Two.Ph.mix3_soft rfl (fun K hK => ?_) | refine Two.Ph.mix3_soon rfl (fun K hK => ?_)); go_simp; (first | (refine hK _ ?_; clear hK K) | (apply Exists.intro; refine ⟨fun z => ?_, hK _ ?_⟩; (first | done); clear hK K)))
                  refine Two.Ph.mix3_loud rfl (fun K hK => ?_)
                  go_simp
                  refine ⟨Ex.setCell (G := fun k => k = X.bA) _ _ _ rfl _, hK _ _ ?_⟩
                  clear hK K
                  refine Two.Ph.mix3_done fun w9 h9 => ?_
                  subst h9
                  have HMq := Lib.hid (HM.out.setA xt (.slice b12 N12 c12) (Q ++ [(⟨o1, (xl : Int), (xt : Int), o4, o5, C.of s⟩ : Rec)]) (HRV.out.below HDR.out))
                  have HXq : Hid (Ex (X.foot B) w2 (wd.setCell ⟨X.bA, xt, none⟩ (.slice b12 N12 c12))) := HX.out.trans (Ex.setCell wd _ _ (by unfold Mv.foot; simp) _)
                  clear HM HX hq8 hf8
                  obtain ⟨w20, hw9⟩ : ∃ w9, wd.setCell ⟨X.bA, xt, none⟩ (.slice b12 N12 c12) = w9 := ⟨_, rfl⟩
                  rw [hw9] at HMq HXq ⊢
                  clear hw9
                  have HM := HMq
                  have HX := HXq
                  clear HMq HXq
                  have hrb := HRb.out w20 HX.out
                  obtain ⟨⟨v0, z0⟩, ⟨v1, z1⟩, ⟨v2, z2⟩, ⟨v3, z3⟩, ⟨v4, z4⟩, ⟨v5, z5⟩, ⟨v6, z6⟩, ⟨v7, z7⟩⟩ := hrb.olds
                  have y0 := hrb.go 0
                  have y1 := hrb.go 1
                  have y2 := hrb.go 2
                  have y3 := hrb.go 3
                  have y4 := hrb.go 4
                  have y5 := hrb.go 5
                  have y6 := hrb.go 6
                  have y7 := hrb.go 7
                  clear hrb
                  go_wp2_with fail
                  refine bodyPost_ret (res_results rfl _ _ R 0 (q : Int) (.slice none 0 0) (.slice none 0 0) rfl ((HRb.out w20 HX.out).put 0 (q : Int) (.slice none 0 0) (.slice none 0 0))) rfl ?_
                  have HF1 : Ending.returned (resv 0 (q : Int) (.slice none 0 0) (.slice none 0 0)) = Ending.returned (resv (M.declassify us gs m ⟨o0, o1, o2, o3, o4, o5, o6, (xl : Int), (xt : Int), o9, kk⟩).1.e (M.declassify us gs m ⟨o0, o1, o2, o3, o4, o5, o6, (xl : Int), (xt : Int), o9, kk⟩).1.n (.slice none 0 0) (.slice none 0 0)) := by rw [HRES.out] <;> rfl
                  have HF2 : Left G w (rbw w20 R 0 (q : Int) (.slice none 0 0) (.slice none 0 0)) B n vn vu vq vg X { X with ls := X.ls.set xt (.slice b9 N9 c9), aa := X.aa.set xt (.slice b12 N12 c12) } (M.declassify us gs m ⟨o0, o1, o2, o3, o4, o5, o6, (xl : Int), (xt : Int), o9, kk⟩).2 := by
                    rw [HRES.out]
                    exact Left.res1 HLT.out HXG.out HM.out (Ex.trans (Ex.of_below HE.out.b) HX.out) (Nat.le_of_lt HR2.out) rfl 0 (q : Int) (.slice none 0 0) (.slice none 0 0)
                  unfold MutPost
                  exact ⟨_, HF1, HF2⟩
end Go.Proofs.YtmapmeacjpoaoaaDoor
