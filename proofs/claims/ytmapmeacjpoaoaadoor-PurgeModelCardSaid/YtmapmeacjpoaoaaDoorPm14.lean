/- What the model's look returns. A model whose parts are written. -/
import Derived.Test.YtmapmeacjpoaoaaDoorPm13
namespace Go.Proofs.YtmapmeacjpoaoaaDoor
open Go Go.RowKit

theorem Rv.shape {w : World} {v : Value} {l : List Rec} (h : Rv w v l) : ∃ ao cap, v = .slice ao l.length cap ∧ l.length ≤ cap := Sl.shape h
theorem rv_drop {w : World} {ao : Option Addr} {n cap : Nat} {l : List Rec} (h : Rv w (.slice ao n cap) l) (hn : l.length = n) (k : Nat) (hk : k ≤ n) : Rv w (.slice (if cap = k then ao else ao.map (·.add (k * 6))) (n - k) (cap - k)) (l.drop k) := by
  unfold Rv at h ⊢
  rw [hn] at h
  have := Sl.drop h k hk
  rw [recCells_drop] at this
  rw [List.length_drop, hn]
  exact this
theorem rv_take {w : World} {ao : Option Addr} {n cap : Nat} {l : List Rec} (h : Rv w (.slice ao n cap) l) (hn : l.length = n) (k : Nat) (hk : k ≤ n) : Rv w (.slice ao k cap) (l.take k) := by
  unfold Rv at h ⊢
  rw [hn] at h
  have := Sl.take h k hk
  rw [recCells_take] at this
  rw [List.length_take, hn, Nat.min_eq_left hk]
  exact this
theorem run_rdrop {w : World} {ao : Option Addr} {n cap : Nat} {l : List Rec} (h : Rv w (.slice ao n cap) l) (hn : l.length = n) (kl : IntKind) (k : Nat) (hk : k ≤ n) (W : World) :
    (Instr.slice 43 (.slice ao n cap) (some (.int kl k)) none none).run Tryd.prog W = .ok (.slice (if cap = k then ao else ao.map (·.add (k * 6))) (n - k) (cap - k)) W := by
  obtain ⟨i, hi, hz, h4, h5⟩ := info_parts infoRec
  unfold Rv at h
  rw [hn] at h
  obtain ⟨_, ao', cap', e1, h1, _⟩ := h
  obtain ⟨-, -, rfl⟩ := Value.slice.inj e1
  have ht := Tryd.underlying43
  have he : Tryd.prog.elem 43 = 112 := by simp [Program.elem, ht]
  rw [run_slice_l W 43 ao n cap (by rw [he]; exact ht) kl k (by omega) (by omega), he]
  simp [sizeOf, typeInfo, hi, h4, sliced, Result.andThen]
theorem run_rtake {w : World} {ao : Option Addr} {n cap : Nat} {l : List Rec} (h : Rv w (.slice ao n cap) l) (hn : l.length = n) (kl : IntKind) (k : Nat) (hk : k ≤ n) (W : World) :
    (Instr.slice 43 (.slice ao n cap) none (some (.int kl k)) none).run Tryd.prog W = .ok (.slice ao k cap) W := by
  obtain ⟨i, hi, hz, h4, h5⟩ := info_parts infoRec
  unfold Rv at h
  rw [hn] at h
  obtain ⟨_, ao', cap', e1, h1, _⟩ := h
  obtain ⟨-, -, rfl⟩ := Value.slice.inj e1
  have ht := Tryd.underlying43
  have he : Tryd.prog.elem 43 = 112 := by simp [Program.elem, ht]
  rw [run_slice_h W 43 ao n cap (by rw [he]; exact ht) kl k (by omega) (by omega), he]
  have ha : (ao.map fun x => x.add 0) = ao := by cases ao <;> simp [Addr.add_zero']
  simp [sizeOf, typeInfo, hi, h4, sliced, Result.andThen, ha]

/-- What was there, whatever it was: a store of what was there already hangs the walk. -/
theorem Rb.olds {w : World} {B : Nat} {e n : Int} {vr vc : Value} (h : Rb w B e n vr vc) : (∃ v, w.cell? ⟨B, 0, none⟩ = some v) ∧ (∃ v, w.cell? ⟨B, 1, none⟩ = some v) ∧ (∃ v, w.cell? ⟨B, 2, none⟩ = some v) ∧ (∃ v, w.cell? ⟨B, 3, none⟩ = some v) ∧ (∃ v, w.cell? ⟨B, 4, none⟩ = some v) ∧ (∃ v, w.cell? ⟨B, 5, none⟩ = some v) ∧ (∃ v, w.cell? ⟨B, 6, none⟩ = some v) ∧ (∃ v, w.cell? ⟨B, 7, none⟩ = some v) := by
  obtain ⟨c0, c1, c2, c3, c4, c5, c6, c7⟩ := h.cells
  exact ⟨⟨_, c0⟩, ⟨_, c1⟩, ⟨_, c2⟩, ⟨_, c3⟩, ⟨_, c4⟩, ⟨_, c5⟩, ⟨_, c6⟩, ⟨_, c7⟩⟩
/-- A result without rows, its records as they stay. -/
def LookPost (G : Nat → Prop) (w : World) (r : Res) (e : Ending) (w' : World) : Prop := ∃ vc, e = .returned (resv r.e r.n (.slice none 0 0) vc) ∧ Fz G w' (fun W => Rv W vc r.recs) ∧ Below w.heap.size w w'
set_option maxRecDepth 4000 in
set_option maxHeartbeats 4000000 in
theorem look_any (G : Nat → Prop) (w : World) (B n : Nat) (vn vu vq vg : Value) (X : Mv) (m : St) (o : Opr) (u : Value) (us : List Nat) (h : Mr w B n vn vu vq vg X m) (hfa : Fz G w (fun W => ∀ i (h : i < X.aa.length) (h2 : i < m.au.length), Rv W X.aa[i] m.au[i])) (hU : Us w vu us) (hU64 : U64s us) (hn : us.length = n) :
    Calls Tryd.prog 27 #[.pointer (some ⟨B, 0, none⟩), opv (o.put u)] w (LookPost G w (M.look us m o)) := by
  have hE := (Ent.box h o u).alloc ((Below.refl _ _).alloc (Nat.le_refl _) (.cells #[.int .i64 0, .int .i64 0, (.slice none 0 0), .int .i64 0, .int .i64 0, .int .i64 0, .int .i64 0, (.slice none 0 0)] 45))
  have hR : Rb ((w.alloc (.cells (opc o u) 33)).alloc (.cells #[.int .i64 0, .int .i64 0, (.slice none 0 0), .int .i64 0, .int .i64 0, .int .i64 0, .int .i64 0, (.slice none 0 0)] 45)) (w.alloc (.cells (opc o u) 33)).heap.size 0 0 (.slice none 0 0) (.slice none 0 0) := heap_alloc_new _ _
  have hR2 : w.heap.size < (w.alloc (.cells (opc o u) 33)).heap.size := by simp
  obtain ⟨w2, hw2⟩ : ∃ w2, (w.alloc (.cells (opc o u) 33)).alloc (.cells #[.int .i64 0, .int .i64 0, (.slice none 0 0), .int .i64 0, .int .i64 0, .int .i64 0, .int .i64 0, (.slice none 0 0)] 45) = w2 := ⟨_, rfl⟩
  obtain ⟨R, hRR⟩ : ∃ R, (w.alloc (.cells (opc o u) 33)).heap.size = R := ⟨_, rfl⟩
  have hRQ : w.heap.size + 1 = R := by rw [← hRR]; simp
  obtain ⟨Qo, hQo⟩ : ∃ Qo, w.heap.size = Qo := ⟨_, rfl⟩
  rw [hw2] at hE hR
  rw [hRR] at hR hR2
  have HE := Lib.hid hE
  have HR2 := Lib.hid hR2
  have HRb : Hid (∀ W, Below w2.heap.size w2 W → Rb W R 0 0 (.slice none 0 0) (.slice none 0 0)) := fun W hW => hR.later hW
  have hb2 : Below w.heap.size w w2 := hE.b
  have HUs := Lib.hid (fun W (hW : Below w2.heap.size w2 W) => hU.below (below_next hb2 hW))
  have HU64 := Lib.hid hU64
  have HFA := Lib.hid hfa
  have HM0 := Lib.hid h
  obtain ⟨o0, o1, o2, o3, o4, o5, o6, o7, o8, o9, kk⟩ := o
  have HRD : Hid (M.look us m ⟨o0, o1, o2, o3, o4, o5, o6, o7, o8, o9, kk⟩ = if !(L.leq us o7 o1) then M.bad 31 else if o0 = 13 then M.ok else ⟨0, 0, [], ((m.au.getD o7.toNat []).drop o9.toNat).take 50⟩) := rfl
  have HLB : Hid (L.leq us o7 o1 = true → ∃ x : Nat, o7 = (x : Int) ∧ x < n) := fun hl => by
    cases hlab : L.lab us o7 with
    | false => rw [L.leq_of_not_left hlab] at hl; cases hl
    | true =>
      obtain ⟨-, h1, h2⟩ := L.lab_iff.1 hlab
      exact ⟨o7.toNat, by omega, by omega⟩
  obtain ⟨au, cu, rfl, -⟩ := hU.shape
  rw [hn] at HUs HE HM0
  simp only [Op11.put, opc] at hw2 ⊢
  rw [hQo] at hRQ HE
  clear h hE hR hR2 hb2 hU hU64 hRR hfa
  go_enter Tryd.func27, Tryd.ntmps27
  go_wp2_with fail
  clear hw2 hQo hRQ hn
  refine wp_region_mix ext_grow [(0, false), (1, false), (2, false), (3, false), (4, false), (5, false), (6, false), (7, false), (8, false), (9, false), (10, false)] (by kernel_rfl) (by kernel_rfl) ?_
  have hb3 : Hid (Below w2.heap.size w2 w2.drew) := (Below.refl _ _).drew
  obtain ⟨w3, hw3⟩ : ∃ w3, w2.drew = w3 := ⟨_, rfl⟩
  rw [hw3] at hb3 ⊢
  clear hw3
  have c1 : ∀ z : Later w3, z.1.cell? ⟨B, 1, none⟩ = some (.slice au n cu) := fun z => (HE.out.m.b.below (below_next hb3.out z.2)).cells.c1
  have p1 : ∀ z : Later w3, z.1.cell? ⟨Qo, 1, none⟩ = some (.int .i64 o1) := fun z => (HE.out.at (below_next hb3.out z.2)).2.1
  have p7 : ∀ z : Later w3, z.1.cell? ⟨Qo, 7, none⟩ = some (.int .i64 o7) := fun z => (HE.out.at (below_next hb3.out z.2)).2.2.2.2.2.2.2.1
  have HLy : Hid (∀ z : Later w3, Calls Tryd.prog 31 #[.slice au n cu, .int .i64 o7, .int .i64 o1] z.1 fun e w' => e = .returned (.bool (L.leq us o7 o1)) ∧ Ext z.1 w') := fun z => (refLeq_any (.slice au n cu) us o7 o1 z.1 (HUs.out z.1 (below_next hb3.out z.2)) HU64.out).mono fun e w' ⟨h1, h2⟩ => ⟨h1, ext_of_eq h2⟩
  obtain ⟨lq, hlq⟩ : ∃ b, L.leq us o7 o1 = b := ⟨_, rfl⟩
  rw [hlq] at HLy HRD HLB
  clear hlq
  repeat (refine mix_soft rfl (fun K hK => ?_); go_simp; (first | (refine hK _ ?_; clear hK K) | (apply Exists.intro; refine ⟨fun z => ?_, hK _ ?_⟩; (first | (go_at_call 31; with_reducible exact HLy.out z)); clear hK K)))
  refine mix_done fun w4 hx4 => ?_
  have hb4 := Lib.hid (below_next hb3.out hx4)
  clear hx4 hb3 c1 p1 p7 HLy
  cases lq with
  | false =>
    have HRES : Hid (M.look us m ⟨o0, o1, o2, o3, o4, o5, o6, o7, o8, o9, kk⟩ = M.bad 31) := by unfold Hid; rw [HRD.out]; rfl
    have st := Lib.hid (not_any 31 w4)
    go_wp2_with fail
    refine st.out.mono ?_
    rintro e wn ⟨rfl, hx⟩
    have hbn := Lib.hid (below_next hb4.out hx)
    clear st hx hb4
    have hrb := HRb.out wn hbn.out
    obtain ⟨⟨v0, z0⟩, ⟨v1, z1⟩, ⟨v2, z2⟩, ⟨v3, z3⟩, ⟨v4, z4⟩, ⟨v5, z5⟩, ⟨v6, z6⟩, ⟨v7, z7⟩⟩ := hrb.olds
    have y0 := hrb.go 0
    have y1 := hrb.go 1
    have y2 := hrb.go 2
    have y3 := hrb.go 3
    have y4 := hrb.go 4
    have y5 := hrb.go 5
    have y6 := hrb.go 6
    have y7 := hrb.go 7
    have hbw2 := Lib.hid (below_next HE.out.b hbn.out)
    clear hrb
    go_wp2_with fail
    refine bodyPost_ret (res_results rfl _ _ R 31 0 (.slice none 0 0) (.slice none 0 0) rfl ((HRb.out wn hbn.out).put 31 0 (.slice none 0 0) (.slice none 0 0))) rfl ?_
    have HF1 : Ending.returned (resv 31 0 (.slice none 0 0) (.slice none 0 0)) = Ending.returned (resv (M.look us m ⟨o0, o1, o2, o3, o4, o5, o6, o7, o8, o9, kk⟩).e (M.look us m ⟨o0, o1, o2, o3, o4, o5, o6, o7, o8, o9, kk⟩).n (.slice none 0 0) (.slice none 0 0)) := by rw [HRES.out] <;> rfl
    have HF2 : Fz G (rbw wn R 31 0 (.slice none 0 0) (.slice none 0 0)) (fun W' => Rv W' (.slice none 0 0) (M.look us m ⟨o0, o1, o2, o3, o4, o5, o6, o7, o8, o9, kk⟩).recs) := by rw [HRES.out]; exact fun W _ => Rv.nil W
    unfold LookPost
    exact ⟨(.slice none 0 0), HF1, HF2, below_rbw hbw2.out (Nat.le_of_lt HR2.out) 31 0 (.slice none 0 0) (.slice none 0 0)⟩
  | true =>
    obtain ⟨x, hx7, hxn⟩ := HLB.out rfl
    subst hx7
    have HRD : Hid (M.look us m ⟨o0, o1, o2, o3, o4, o5, o6, (x : Int), o8, o9, kk⟩ = if o0 = 13 then M.ok else ⟨0, 0, [], ((m.au.getD x []).drop o9.toNat).take 50⟩) := by unfold Hid; rw [HRD.out]; rfl
    have hx0 : (0 : Int) ≤ (x : Int) := by omega
    have hxI : (x : Int) < (n : Int) := by omega
    obtain ⟨p0, -, -, -, -, -, -, p7, -, p9, -⟩ := HE.out.at hb4.out
    simp only [] at p0 p7 p9
    clear HLB
    by_cases h13 : o0 = 13
    · subst h13
      have HRES : Hid (M.look us m ⟨13, o1, o2, o3, o4, o5, o6, (x : Int), o8, o9, kk⟩ = M.ok) := by unfold Hid; rw [HRD.out, if_pos rfl]
      clear HRD
      have hrb := HRb.out w4 hb4.out
      obtain ⟨⟨v0, z0⟩, ⟨v1, z1⟩, ⟨v2, z2⟩, ⟨v3, z3⟩, ⟨v4, z4⟩, ⟨v5, z5⟩, ⟨v6, z6⟩, ⟨v7, z7⟩⟩ := hrb.olds
      have y0 := hrb.go 0
      have y1 := hrb.go 1
      have y2 := hrb.go 2
      have y3 := hrb.go 3
      have y4 := hrb.go 4
      have y5 := hrb.go 5
      have y6 := hrb.go 6
      have y7 := hrb.go 7
      have hbw2 := Lib.hid (below_next HE.out.b hb4.out)
      clear hrb
      go_wp2_with fail
      refine bodyPost_ret (res_results rfl _ _ R 0 0 (.slice none 0 0) (.slice none 0 0) rfl ((HRb.out w4 hb4.out).put 0 0 (.slice none 0 0) (.slice none 0 0))) rfl ?_
      have HF1 : Ending.returned (resv 0 0 (.slice none 0 0) (.slice none 0 0)) = Ending.returned (resv (M.look us m ⟨13, o1, o2, o3, o4, o5, o6, (x : Int), o8, o9, kk⟩).e (M.look us m ⟨13, o1, o2, o3, o4, o5, o6, (x : Int), o8, o9, kk⟩).n (.slice none 0 0) (.slice none 0 0)) := by rw [HRES.out] <;> rfl
      have HF2 : Fz G (rbw w4 R 0 0 (.slice none 0 0) (.slice none 0 0)) (fun W' => Rv W' (.slice none 0 0) (M.look us m ⟨13, o1, o2, o3, o4, o5, o6, (x : Int), o8, o9, kk⟩).recs) := by rw [HRES.out]; exact fun W _ => Rv.nil W
      unfold LookPost
      exact ⟨(.slice none 0 0), HF1, HF2, below_rbw hbw2.out (Nat.le_of_lt HR2.out) 0 0 (.slice none 0 0) (.slice none 0 0)⟩
    · have d1 : (o0 == 13) = false := by simp [h13]
      have d2 : decide (o0 = 13) = false := by simp [h13]
      have HRES : Hid (M.look us m ⟨o0, o1, o2, o3, o4, o5, o6, (x : Int), o8, o9, kk⟩ = ⟨0, 0, [], ((m.au.getD x []).drop o9.toNat).take 50⟩) := by unfold Hid; rw [HRD.out, if_neg h13]
      clear h13 HRD
      obtain ⟨v, e9, hcv, -⟩ := (HE.out.m.below hb4.out).listA hxn
      obtain ⟨v8, e8, -, hrv⟩ := HM0.out.listA hxn
      obtain rfl : v = v8 := Option.some.inj (e9.symm.trans e8)
      have c5 := ((HE.out.m.b.below hb4.out).cells).c5
      have HF : Hid (Fz G w (fun W => Rv W v (m.au.getD x []))) := fun W hW => by
        have h1 := own_len HM0.out.b.oA
        have h2 := HM0.out.b.nA
        have := HFA.out W hW x (by omega) (by omega)
        rw [List.getD_eq_getElem?_getD, List.getElem?_eq_getElem (by omega), Option.getD_some]
        have e7 : X.aa[x]'(by omega) = v := by
          rw [List.getElem?_eq_getElem (by omega)] at e9
          exact Option.some.inj e9
        rw [e7] at this
        exact this
      obtain ⟨A, hA⟩ : ∃ A, m.au.getD x [] = A := ⟨_, rfl⟩
      rw [hA] at hrv HF HRES
      obtain ⟨a, c, rfl, -⟩ := hrv.shape
      have hbig : A.length ≤ 9223372036854775807 := by
        obtain ⟨_, _, _, e, h1, h2, _⟩ := hrv
        unfold maxLen at h2
        omega
      obtain ⟨N, hN⟩ : ∃ N, A.length = N := ⟨_, rfl⟩
      have HAn := Lib.hid hN
      rw [hN] at hrv hcv HF hbig
      clear e8 e9 hA hN
      go_wp2_with fail
      go_quiet (fail)
      have hb5 := Lib.hid (below_next hb4.out (below_drewN w4 nq))
      generalize w4.drewN nq = w5 at *
      obtain ⟨w4', hw4⟩ : ∃ w4', w5 = w4' := ⟨_, rfl⟩
      clear hb4 c5 hcv p0 p7 p9
      obtain ⟨-, -, -, -, -, -, -, -, -, p9, -⟩ := HE.out.at hb5.out
      simp only [] at p9
      clear hw4
      by_cases h0 : o9 < 0
      · have HKD : Hid (A.drop o9.toNat = A.drop 0) := by unfold Hid; rw [show o9.toNat = 0 by omega]
        have hrun := fun W => run_rdrop hrv HAn.out .i64 0 (by omega) W
        have hrd := rv_drop hrv HAn.out 0 (by omega)
        obtain ⟨ad, had⟩ : ∃ ad, (if c = 0 then a else a.map (·.add (0 * 6))) = ad := ⟨_, rfl⟩
        rw [had] at hrun hrd
        have HFd : Hid (Fz G w (fun W => Rv W (.slice ad (N - 0) (c - 0)) (A.drop 0))) := fun W hW => by
          have := rv_drop (HF.out W hW) HAn.out 0 (by omega)
          rw [had] at this
          exact this
        clear had
        obtain ⟨q, hq⟩ : ∃ q, N - 0 = q := ⟨_, rfl⟩
        rw [hq] at hrun HFd hrd
        have HAd : Hid ((A.drop 0).length = q) := by unfold Hid; rw [List.length_drop, HAn.out, hq]
        obtain ⟨cq, hcq⟩ : ∃ cq, c - 0 = cq := ⟨_, rfl⟩
        rw [hcq] at hrun HFd hrd
        clear hcq hrv
        rw [show ((0 : Nat) : Int) = 0 from rfl] at hrun
        by_cases h50 : 50 < q
        · have h50I : (50 : Int) < (q : Int) := by omega
          have hrun2 := fun W => run_rtake hrd HAd.out .i64 50 (by omega) W
          rw [show ((50 : Nat) : Int) = 50 from rfl] at hrun2
          have HFt : Hid (Fz G w (fun W => Rv W (.slice ad 50 cq) ((A.drop 0).take 50))) := fun W hW => rv_take (HFd.out W hW) HAd.out 50 (by omega)
          have HRES : Hid (M.look us m ⟨o0, o1, o2, o3, o4, o5, o6, (x : Int), o8, o9, kk⟩ = ⟨0, 0, [], (A.drop 0).take 50⟩) := by unfold Hid; rw [HRES.out, HKD.out]
          have hbw := Lib.hid (below_next HE.out.b hb5.out)
          clear hrd HFd h50
          have hrb := HRb.out w5 hb5.out
          obtain ⟨⟨v0, z0⟩, ⟨v1, z1⟩, ⟨v2, z2⟩, ⟨v3, z3⟩, ⟨v4, z4⟩, ⟨v5, z5⟩, ⟨v6, z6⟩, ⟨v7, z7⟩⟩ := hrb.olds
          have y0 := hrb.go 0
          have y1 := hrb.go 1
          have y2 := hrb.go 2
          have y3 := hrb.go 3
          have y4 := hrb.go 4
          have y5 := hrb.go 5
          have y6 := hrb.go 6
          have y7 := hrb.go 7
          have hbw2 := Lib.hid (below_next HE.out.b hb5.out)
          clear hrb
          go_wp2_with fail
          refine bodyPost_ret (res_results rfl _ _ R 0 0 (.slice none 0 0) (.slice ad 50 cq) rfl ((HRb.out w5 hb5.out).put 0 0 (.slice none 0 0) (.slice ad 50 cq))) rfl ?_
          have HF1 : Ending.returned (resv 0 0 (.slice none 0 0) (.slice ad 50 cq)) = Ending.returned (resv (M.look us m ⟨o0, o1, o2, o3, o4, o5, o6, (x : Int), o8, o9, kk⟩).e (M.look us m ⟨o0, o1, o2, o3, o4, o5, o6, (x : Int), o8, o9, kk⟩).n (.slice none 0 0) (.slice ad 50 cq)) := by rw [HRES.out] <;> rfl
          have HF2 : Fz G (rbw w5 R 0 0 (.slice none 0 0) (.slice ad 50 cq)) (fun W' => Rv W' (.slice ad 50 cq) (M.look us m ⟨o0, o1, o2, o3, o4, o5, o6, (x : Int), o8, o9, kk⟩).recs) := by rw [HRES.out]; exact HFt.out.on (ex_rbw (Ex.of_below hbw.out) (Nat.le_of_lt HR2.out) 0 0 (.slice none 0 0) (.slice ad 50 cq))
          unfold LookPost
          exact ⟨(.slice ad 50 cq), HF1, HF2, below_rbw hbw2.out (Nat.le_of_lt HR2.out) 0 0 (.slice none 0 0) (.slice ad 50 cq)⟩
        · have h50I : ¬ ((50 : Int) < (q : Int)) := by omega
          have HRES : Hid (M.look us m ⟨o0, o1, o2, o3, o4, o5, o6, (x : Int), o8, o9, kk⟩ = ⟨0, 0, [], A.drop 0⟩) := by unfold Hid; rw [HRES.out, HKD.out, List.take_of_length_le (by rw [HAd.out]; omega)]
          have hbw := Lib.hid (below_next HE.out.b hb5.out)
          clear hrd h50
          have hrb := HRb.out w5 hb5.out
          obtain ⟨⟨v0, z0⟩, ⟨v1, z1⟩, ⟨v2, z2⟩, ⟨v3, z3⟩, ⟨v4, z4⟩, ⟨v5, z5⟩, ⟨v6, z6⟩, ⟨v7, z7⟩⟩ := hrb.olds
          have y0 := hrb.go 0
          have y1 := hrb.go 1
          have y2 := hrb.go 2
          have y3 := hrb.go 3
          have y4 := hrb.go 4
          have y5 := hrb.go 5
          have y6 := hrb.go 6
          have y7 := hrb.go 7
          have hbw2 := Lib.hid (below_next HE.out.b hb5.out)
          clear hrb
          go_wp2_with fail
          refine bodyPost_ret (res_results rfl _ _ R 0 0 (.slice none 0 0) (.slice ad q cq) rfl ((HRb.out w5 hb5.out).put 0 0 (.slice none 0 0) (.slice ad q cq))) rfl ?_
          have HF1 : Ending.returned (resv 0 0 (.slice none 0 0) (.slice ad q cq)) = Ending.returned (resv (M.look us m ⟨o0, o1, o2, o3, o4, o5, o6, (x : Int), o8, o9, kk⟩).e (M.look us m ⟨o0, o1, o2, o3, o4, o5, o6, (x : Int), o8, o9, kk⟩).n (.slice none 0 0) (.slice ad q cq)) := by rw [HRES.out] <;> rfl
          have HF2 : Fz G (rbw w5 R 0 0 (.slice none 0 0) (.slice ad q cq)) (fun W' => Rv W' (.slice ad q cq) (M.look us m ⟨o0, o1, o2, o3, o4, o5, o6, (x : Int), o8, o9, kk⟩).recs) := by rw [HRES.out]; exact HFd.out.on (ex_rbw (Ex.of_below hbw.out) (Nat.le_of_lt HR2.out) 0 0 (.slice none 0 0) (.slice ad q cq))
          unfold LookPost
          exact ⟨(.slice ad q cq), HF1, HF2, below_rbw hbw2.out (Nat.le_of_lt HR2.out) 0 0 (.slice none 0 0) (.slice ad q cq)⟩
      · by_cases h1 : (N : Int) < o9
        · have HKD : Hid (A.drop o9.toNat = A.drop N) := by unfold Hid; rw [List.drop_of_length_le (by rw [HAn.out]; omega), List.drop_of_length_le (by rw [HAn.out]; exact Nat.le_refl _)]
          have hrun := fun W => run_rdrop hrv HAn.out .i64 N (by omega) W
          have hrd := rv_drop hrv HAn.out N (by omega)
          obtain ⟨ad, had⟩ : ∃ ad, (if c = N then a else a.map (·.add (N * 6))) = ad := ⟨_, rfl⟩
          rw [had] at hrun hrd
          have HFd : Hid (Fz G w (fun W => Rv W (.slice ad (N - N) (c - N)) (A.drop N))) := fun W hW => by
            have := rv_drop (HF.out W hW) HAn.out N (by omega)
            rw [had] at this
            exact this
          clear had
          obtain ⟨q, hq⟩ : ∃ q, N - N = q := ⟨_, rfl⟩
          rw [hq] at hrun HFd hrd
          have HAd : Hid ((A.drop N).length = q) := by unfold Hid; rw [List.length_drop, HAn.out, hq]
          obtain ⟨cq, hcq⟩ : ∃ cq, c - N = cq := ⟨_, rfl⟩
          rw [hcq] at hrun HFd hrd
          clear hcq hrv

          by_cases h50 : 50 < q
          · exact absurd h50 (by omega)
          · have h50I : ¬ ((50 : Int) < (q : Int)) := by omega
            have HRES : Hid (M.look us m ⟨o0, o1, o2, o3, o4, o5, o6, (x : Int), o8, o9, kk⟩ = ⟨0, 0, [], A.drop N⟩) := by unfold Hid; rw [HRES.out, HKD.out, List.take_of_length_le (by rw [HAd.out]; omega)]
            have hbw := Lib.hid (below_next HE.out.b hb5.out)
            clear hrd h50
            have hrb := HRb.out w5 hb5.out
            obtain ⟨⟨v0, z0⟩, ⟨v1, z1⟩, ⟨v2, z2⟩, ⟨v3, z3⟩, ⟨v4, z4⟩, ⟨v5, z5⟩, ⟨v6, z6⟩, ⟨v7, z7⟩⟩ := hrb.olds
            have y0 := hrb.go 0
            have y1 := hrb.go 1
            have y2 := hrb.go 2
            have y3 := hrb.go 3
            have y4 := hrb.go 4
            have y5 := hrb.go 5
            have y6 := hrb.go 6
            have y7 := hrb.go 7
            have hbw2 := Lib.hid (below_next HE.out.b hb5.out)
            clear hrb
            go_wp2_with fail
            refine bodyPost_ret (res_results rfl _ _ R 0 0 (.slice none 0 0) (.slice ad q cq) rfl ((HRb.out w5 hb5.out).put 0 0 (.slice none 0 0) (.slice ad q cq))) rfl ?_
            have HF1 : Ending.returned (resv 0 0 (.slice none 0 0) (.slice ad q cq)) = Ending.returned (resv (M.look us m ⟨o0, o1, o2, o3, o4, o5, o6, (x : Int), o8, o9, kk⟩).e (M.look us m ⟨o0, o1, o2, o3, o4, o5, o6, (x : Int), o8, o9, kk⟩).n (.slice none 0 0) (.slice ad q cq)) := by rw [HRES.out] <;> rfl
            have HF2 : Fz G (rbw w5 R 0 0 (.slice none 0 0) (.slice ad q cq)) (fun W' => Rv W' (.slice ad q cq) (M.look us m ⟨o0, o1, o2, o3, o4, o5, o6, (x : Int), o8, o9, kk⟩).recs) := by rw [HRES.out]; exact HFd.out.on (ex_rbw (Ex.of_below hbw.out) (Nat.le_of_lt HR2.out) 0 0 (.slice none 0 0) (.slice ad q cq))
            unfold LookPost
            exact ⟨(.slice ad q cq), HF1, HF2, below_rbw hbw2.out (Nat.le_of_lt HR2.out) 0 0 (.slice none 0 0) (.slice ad q cq)⟩
        · obtain ⟨k, rfl⟩ : ∃ k : Nat, o9 = (k : Int) := ⟨o9.toNat, by omega⟩
          have hkN : k ≤ N := by omega
          have HKD : Hid (A.drop ((k : Int)).toNat = A.drop k) := by unfold Hid; rw [Int.toNat_natCast]
          have hrun := fun W => run_rdrop hrv HAn.out .i64 k (by omega) W
          have hrd := rv_drop hrv HAn.out k (by omega)
          obtain ⟨ad, had⟩ : ∃ ad, (if c = k then a else a.map (·.add (k * 6))) = ad := ⟨_, rfl⟩
          rw [had] at hrun hrd
          have HFd : Hid (Fz G w (fun W => Rv W (.slice ad (N - k) (c - k)) (A.drop k))) := fun W hW => by
            have := rv_drop (HF.out W hW) HAn.out k (by omega)
            rw [had] at this
            exact this
          clear had
          obtain ⟨q, hq⟩ : ∃ q, N - k = q := ⟨_, rfl⟩
          rw [hq] at hrun HFd hrd
          have HAd : Hid ((A.drop k).length = q) := by unfold Hid; rw [List.length_drop, HAn.out, hq]
          obtain ⟨cq, hcq⟩ : ∃ cq, c - k = cq := ⟨_, rfl⟩
          rw [hcq] at hrun HFd hrd
          clear hcq hrv

          by_cases h50 : 50 < q
          · have h50I : (50 : Int) < (q : Int) := by omega
            have hrun2 := fun W => run_rtake hrd HAd.out .i64 50 (by omega) W
            rw [show ((50 : Nat) : Int) = 50 from rfl] at hrun2
            have HFt : Hid (Fz G w (fun W => Rv W (.slice ad 50 cq) ((A.drop k).take 50))) := fun W hW => rv_take (HFd.out W hW) HAd.out 50 (by omega)
            have HRES : Hid (M.look us m ⟨o0, o1, o2, o3, o4, o5, o6, (x : Int), o8, (k : Int), kk⟩ = ⟨0, 0, [], (A.drop k).take 50⟩) := by unfold Hid; rw [HRES.out, HKD.out]
            have hbw := Lib.hid (below_next HE.out.b hb5.out)
            clear hrd HFd h50
            have hrb := HRb.out w5 hb5.out
            obtain ⟨⟨v0, z0⟩, ⟨v1, z1⟩, ⟨v2, z2⟩, ⟨v3, z3⟩, ⟨v4, z4⟩, ⟨v5, z5⟩, ⟨v6, z6⟩, ⟨v7, z7⟩⟩ := hrb.olds
            have y0 := hrb.go 0
            have y1 := hrb.go 1
            have y2 := hrb.go 2
            have y3 := hrb.go 3
            have y4 := hrb.go 4
            have y5 := hrb.go 5
            have y6 := hrb.go 6
            have y7 := hrb.go 7
            have hbw2 := Lib.hid (below_next HE.out.b hb5.out)
            clear hrb
            go_wp2_with fail
            refine bodyPost_ret (res_results rfl _ _ R 0 0 (.slice none 0 0) (.slice ad 50 cq) rfl ((HRb.out w5 hb5.out).put 0 0 (.slice none 0 0) (.slice ad 50 cq))) rfl ?_
            have HF1 : Ending.returned (resv 0 0 (.slice none 0 0) (.slice ad 50 cq)) = Ending.returned (resv (M.look us m ⟨o0, o1, o2, o3, o4, o5, o6, (x : Int), o8, (k : Int), kk⟩).e (M.look us m ⟨o0, o1, o2, o3, o4, o5, o6, (x : Int), o8, (k : Int), kk⟩).n (.slice none 0 0) (.slice ad 50 cq)) := by rw [HRES.out] <;> rfl
            have HF2 : Fz G (rbw w5 R 0 0 (.slice none 0 0) (.slice ad 50 cq)) (fun W' => Rv W' (.slice ad 50 cq) (M.look us m ⟨o0, o1, o2, o3, o4, o5, o6, (x : Int), o8, (k : Int), kk⟩).recs) := by rw [HRES.out]; exact HFt.out.on (ex_rbw (Ex.of_below hbw.out) (Nat.le_of_lt HR2.out) 0 0 (.slice none 0 0) (.slice ad 50 cq))
            unfold LookPost
            exact ⟨(.slice ad 50 cq), HF1, HF2, below_rbw hbw2.out (Nat.le_of_lt HR2.out) 0 0 (.slice none 0 0) (.slice ad 50 cq)⟩
          · have h50I : ¬ ((50 : Int) < (q : Int)) := by omega
            have HRES : Hid (M.look us m ⟨o0, o1, o2, o3, o4, o5, o6, (x : Int), o8, (k : Int), kk⟩ = ⟨0, 0, [], A.drop k⟩) := by unfold Hid; rw [HRES.out, HKD.out, List.take_of_length_le (by rw [HAd.out]; omega)]
            have hbw := Lib.hid (below_next HE.out.b hb5.out)
            clear hrd h50
            have hrb := HRb.out w5 hb5.out
            obtain ⟨⟨v0, z0⟩, ⟨v1, z1⟩, ⟨v2, z2⟩, ⟨v3, z3⟩, ⟨v4, z4⟩, ⟨v5, z5⟩, ⟨v6, z6⟩, ⟨v7, z7⟩⟩ := hrb.olds
            have y0 := hrb.go 0
            have y1 := hrb.go 1
            have y2 := hrb.go 2
            have y3 := hrb.go 3
            have y4 := hrb.go 4
            have y5 := hrb.go 5
            have y6 := hrb.go 6
            have y7 := hrb.go 7
            have hbw2 := Lib.hid (below_next HE.out.b hb5.out)
            clear hrb
            go_wp2_with fail
            refine bodyPost_ret (res_results rfl _ _ R 0 0 (.slice none 0 0) (.slice ad q cq) rfl ((HRb.out w5 hb5.out).put 0 0 (.slice none 0 0) (.slice ad q cq))) rfl ?_
            have HF1 : Ending.returned (resv 0 0 (.slice none 0 0) (.slice ad q cq)) = Ending.returned (resv (M.look us m ⟨o0, o1, o2, o3, o4, o5, o6, (x : Int), o8, (k : Int), kk⟩).e (M.look us m ⟨o0, o1, o2, o3, o4, o5, o6, (x : Int), o8, (k : Int), kk⟩).n (.slice none 0 0) (.slice ad q cq)) := by rw [HRES.out] <;> rfl
            have HF2 : Fz G (rbw w5 R 0 0 (.slice none 0 0) (.slice ad q cq)) (fun W' => Rv W' (.slice ad q cq) (M.look us m ⟨o0, o1, o2, o3, o4, o5, o6, (x : Int), o8, (k : Int), kk⟩).recs) := by rw [HRES.out]; exact HFd.out.on (ex_rbw (Ex.of_below hbw.out) (Nat.le_of_lt HR2.out) 0 0 (.slice none 0 0) (.slice ad q cq))
            unfold LookPost
            exact ⟨(.slice ad q cq), HF1, HF2, below_rbw hbw2.out (Nat.le_of_lt HR2.out) 0 0 (.slice none 0 0) (.slice ad q cq)⟩
end Go.Proofs.YtmapmeacjpoaoaaDoor
namespace Go.Proofs.YtmapmeacjpoaoaaDoor
open Go Go.RowKit

/-- The blocks that operations of a model write. -/
def Mv.foot (X : Mv) (B k : Nat) : Prop := k = B ∨ k = X.bL ∨ k = X.bA ∨ k = X.bH ∨ k = X.bD ∨ X.vp.ownBlock = some k
/-- A model in memory, whose frozen parts stay whatever is done to blocks of G. -/
structure Mem (G : Nat → Prop) (w : World) (B n : Nat) (vn vu vq vg : Value) (X : Mv) (m : St) : Prop where
  b : Mb w B n vn vu vq vg X m
  f : Fz G w (fun W => Fr W X m)
  g : ∀ k, X.foot B k → G k
  d : X.bL ≠ X.bD
  lt : ∀ k, G k → k < w.heap.size
theorem Mem.mr {G : Nat → Prop} {w : World} {B n : Nat} {vn vu vq vg : Value} {X : Mv} {m : St} (h : Mem G w B n vn vu vq vg X m) : Mr w B n vn vu vq vg X m := ⟨h.b, h.f.here⟩
theorem Mem.below {G : Nat → Prop} {w w' : World} {B n : Nat} {vn vu vq vg : Value} {X : Mv} {m : St} (h : Mem G w B n vn vu vq vg X m) (hb : Below w.heap.size w w') : Mem G w' B n vn vu vq vg X m :=
  ⟨h.b.below hb, h.f.below hb, h.g, h.d, fun k hk => Nat.lt_of_lt_of_le (h.lt k hk) hb.size⟩
theorem own_heap {w : World} {base t sz n b len cap : Nat} {cs : List Value} (h : w.ownsRow base t sz (.slice (some ⟨b, 0, none⟩) len cap) n cs) : ∃ cur, w.heap[b]? = some (.cells cur t (0, 0)) := by
  rcases h.2 with ⟨e, -⟩ | ⟨g, c, cur, e, -, hh, -⟩
  · cases e
  · obtain ⟨e1, -, -⟩ := Value.slice.inj e
    obtain rfl : b = g := by simpa using e1
    exact ⟨cur, hh⟩
theorem ne_type {w : World} {b b' t t' : Nat} {c c' : Array Value} (h : w.heap[b]? = some (.cells c t (0, 0))) (h' : w.heap[b']? = some (.cells c' t' (0, 0))) (ht : t ≠ t') : b ≠ b' := by
  rintro rfl
  rw [h] at h'
  simp only [Option.some.injEq, Obj.cells.injEq] at h'
  exact ht h'.2.1
theorem own_set {w : World} {base t sz n b i : Nat} {v x : Value} {cs : List Value} (h : w.ownsRow base t sz v n cs) (hne : v.ownBlock ≠ some b) : (w.setCell ⟨b, i, none⟩ x).ownsRow base t sz v n cs :=
  own_ex h (fun k hk e => hne (by rw [hk, e])) (Ex.setCell (G := fun k => k = b) w b i rfl x)
/-- Another list of a label's draft. -/
theorem Mem.setD {G : Nat → Prop} {w : World} {B n : Nat} {vn vu vq vg : Value} {X : Mv} {m : St} (h : Mem G w B n vn vu vq vg X m) (x : Nat) (v : Value) (l : List En) (hv : Fz G w (fun W => Es W v l)) :
    Mem G (w.setCell ⟨X.bD, x, none⟩ v) B n vn vu vq vg { X with ds := X.ds.set x v } { m with dr := m.dr.set x l } := by
  obtain ⟨curD, hD⟩ := own_heap h.b.oD
  obtain ⟨curL, hL⟩ := own_heap h.b.oL
  obtain ⟨curA, hA⟩ := own_heap h.b.oA
  obtain ⟨curH, hH⟩ := own_heap h.b.oH
  have hB : B ≠ X.bD := ne_type h.b.hd hD (by decide)
  have hLx : X.bL ≠ X.bD := h.d
  have hAx : X.bA ≠ X.bD := ne_type hA hD (by decide)
  have hHx : X.bH ≠ X.bD := ne_type hH hD (by decide)
  have hP : X.vp.ownBlock ≠ some X.bD := fun e => own_type h.b.oP h.b.oD (by decide) X.bD e rfl
  have hE : Ex G w (w.setCell ⟨X.bD, x, none⟩ v) := Ex.setCell w X.bD x (h.g _ (by unfold Mv.foot; simp)) v
  refine ⟨⟨?_, own_set h.b.oL (by simp [Value.ownBlock, hLx]), own_set h.b.oA (by simp [Value.ownBlock, hAx]), own_set h.b.oH (by simp [Value.ownBlock, hHx]), ?_, own_set h.b.oP hP, h.b.lp, h.b.nL, h.b.nA, h.b.nH, by simpa using h.b.nD⟩, ?_, h.g, h.d, fun k hk => by have := h.lt k hk; simpa [World.setCell] using this⟩
  · exact (Below.heap_setCell w ⟨X.bD, x, none⟩ v B hB).trans h.b.hd
  · exact (h.b.oD.stored x v).1
  · intro W hW
    have h1 := h.f W (hE.trans hW)
    refine ⟨h1.L, h1.A, fun i h2 h3 => ?_, h1.S, h1.P⟩
    simp only [List.getElem_set]
    by_cases hxi : x = i
    · simp only [hxi, if_true]
      exact hv W (hE.trans hW)
    · simp only [hxi, if_false]
      exact h1.D i (by simpa using h2) (by simpa using h3)
/-- Another list of a label. -/
theorem Mem.setL {G : Nat → Prop} {w : World} {B n : Nat} {vn vu vq vg : Value} {X : Mv} {m : St} (h : Mem G w B n vn vu vq vg X m) (x : Nat) (v : Value) (l : List En) (hv : Fz G w (fun W => Es W v l)) :
    Mem G (w.setCell ⟨X.bL, x, none⟩ v) B n vn vu vq vg { X with ls := X.ls.set x v } { m with L := m.L.set x l } := by
  obtain ⟨curD, hD⟩ := own_heap h.b.oD
  obtain ⟨curL, hL⟩ := own_heap h.b.oL
  obtain ⟨curA, hA⟩ := own_heap h.b.oA
  obtain ⟨curH, hH⟩ := own_heap h.b.oH
  have hB : B ≠ X.bL := ne_type h.b.hd hL (by decide)
  have hAx : X.bA ≠ X.bL := ne_type hA hL (by decide)
  have hHx : X.bH ≠ X.bL := ne_type hH hL (by decide)
  have hDx : X.bD ≠ X.bL := Ne.symm h.d
  have hP : X.vp.ownBlock ≠ some X.bL := fun e => own_type h.b.oP h.b.oL (by decide) X.bL e rfl
  have hE : Ex G w (w.setCell ⟨X.bL, x, none⟩ v) := Ex.setCell w X.bL x (h.g _ (by unfold Mv.foot; simp)) v
  refine ⟨⟨?_, ?_, own_set h.b.oA (by simp [Value.ownBlock, hAx]), own_set h.b.oH (by simp [Value.ownBlock, hHx]), own_set h.b.oD (by simp [Value.ownBlock, hDx]), own_set h.b.oP hP, h.b.lp, by simpa using h.b.nL, h.b.nA, h.b.nH, h.b.nD⟩, ?_, h.g, h.d, fun k hk => by have := h.lt k hk; simpa [World.setCell] using this⟩
  · exact (Below.heap_setCell w ⟨X.bL, x, none⟩ v B hB).trans h.b.hd
  · exact (h.b.oL.stored x v).1
  · intro W hW
    have h1 := h.f W (hE.trans hW)
    refine ⟨fun i h2 h3 => ?_, h1.A, h1.D, h1.S, h1.P⟩
    simp only [List.getElem_set]
    by_cases hxi : x = i
    · simp only [hxi, if_true]
      exact hv W (hE.trans hW)
    · simp only [hxi, if_false]
      exact h1.L i (by simpa using h2) (by simpa using h3)
/-- Other records of a label. -/
theorem Mem.setA {G : Nat → Prop} {w : World} {B n : Nat} {vn vu vq vg : Value} {X : Mv} {m : St} (h : Mem G w B n vn vu vq vg X m) (x : Nat) (v : Value) (l : List Rec) (hv : Fz G w (fun W => Rv W v l)) :
    Mem G (w.setCell ⟨X.bA, x, none⟩ v) B n vn vu vq vg { X with aa := X.aa.set x v } { m with au := m.au.set x l } := by
  obtain ⟨curD, hD⟩ := own_heap h.b.oD
  obtain ⟨curL, hL⟩ := own_heap h.b.oL
  obtain ⟨curA, hA⟩ := own_heap h.b.oA
  obtain ⟨curH, hH⟩ := own_heap h.b.oH
  have hB : B ≠ X.bA := ne_type h.b.hd hA (by decide)
  have hLx : X.bL ≠ X.bA := ne_type hL hA (by decide)
  have hHx : X.bH ≠ X.bA := ne_type hH hA (by decide)
  have hDx : X.bD ≠ X.bA := ne_type hD hA (by decide)
  have hP : X.vp.ownBlock ≠ some X.bA := fun e => own_type h.b.oP h.b.oA (by decide) X.bA e rfl
  have hE : Ex G w (w.setCell ⟨X.bA, x, none⟩ v) := Ex.setCell w X.bA x (h.g _ (by unfold Mv.foot; simp)) v
  refine ⟨⟨?_, own_set h.b.oL (by simp [Value.ownBlock, hLx]), ?_, own_set h.b.oH (by simp [Value.ownBlock, hHx]), own_set h.b.oD (by simp [Value.ownBlock, hDx]), own_set h.b.oP hP, h.b.lp, h.b.nL, by simpa using h.b.nA, h.b.nH, h.b.nD⟩, ?_, h.g, h.d, fun k hk => by have := h.lt k hk; simpa [World.setCell] using this⟩
  · exact (Below.heap_setCell w ⟨X.bA, x, none⟩ v B hB).trans h.b.hd
  · exact (h.b.oA.stored x v).1
  · intro W hW
    have h1 := h.f W (hE.trans hW)
    refine ⟨h1.L, fun i h2 h3 => ?_, h1.D, h1.S, h1.P⟩
    simp only [List.getElem_set]
    by_cases hxi : x = i
    · simp only [hxi, if_true]
      exact hv W (hE.trans hW)
    · simp only [hxi, if_false]
      exact h1.A i (by simpa using h2) (by simpa using h3)
/-- Another session has a label's transaction. -/
theorem Mem.setH {G : Nat → Prop} {w : World} {B n : Nat} {vn vu vq vg : Value} {X : Mv} {m : St} (h : Mem G w B n vn vu vq vg X m) (x : Nat) (y : Int) :
    Mem G (w.setCell ⟨X.bH, x, none⟩ (.int .i64 y)) B n vn vu vq vg X { m with has := m.has.set x y } := by
  obtain ⟨curD, hD⟩ := own_heap h.b.oD
  obtain ⟨curL, hL⟩ := own_heap h.b.oL
  obtain ⟨curA, hA⟩ := own_heap h.b.oA
  obtain ⟨curH, hH⟩ := own_heap h.b.oH
  have hB : B ≠ X.bH := ne_type h.b.hd hH (by decide)
  have hLx : X.bL ≠ X.bH := ne_type hL hH (by decide)
  have hAx : X.bA ≠ X.bH := ne_type hA hH (by decide)
  have hDx : X.bD ≠ X.bH := ne_type hD hH (by decide)
  have hP : X.vp.ownBlock ≠ some X.bH := fun e => own_type h.b.oP h.b.oH (by decide) X.bH e rfl
  have hE : Ex G w (w.setCell ⟨X.bH, x, none⟩ (.int .i64 y)) := Ex.setCell w X.bH x (h.g _ (by unfold Mv.foot; simp)) (.int .i64 y)
  refine ⟨⟨?_, own_set h.b.oL (by simp [Value.ownBlock, hLx]), own_set h.b.oA (by simp [Value.ownBlock, hAx]), ?_, own_set h.b.oD (by simp [Value.ownBlock, hDx]), own_set h.b.oP hP, h.b.lp, h.b.nL, h.b.nA, by simpa using h.b.nH, h.b.nD⟩, ?_, h.g, h.d, fun k hk => by have := h.lt k hk; simpa [World.setCell] using this⟩
  · exact (Below.heap_setCell w ⟨X.bH, x, none⟩ (.int .i64 y) B hB).trans h.b.hd
  · have := (h.b.oH.stored x (.int .i64 y)).1
    simpa [intsV, List.map_set] using this
  · intro W hW
    have h1 := h.f W (hE.trans hW)
    exact ⟨h1.L, h1.A, h1.D, h1.S, h1.P⟩
/-- Other sessions. -/
theorem Mem.setS {G : Nat → Prop} {w : World} {B n : Nat} {vn vu vq vg : Value} {X : Mv} {m : St} (h : Mem G w B n vn vu vq vg X m) (v : Value) (us : List Value) (l : List Ses) (hv : Fz G w (fun W => Sv W v us l)) :
    Mem G (w.setCell ⟨B, 8, none⟩ v) B n vn vu vq vg { X with vs := v, us := us } { m with ses := l } := by
  obtain ⟨curD, hD⟩ := own_heap h.b.oD
  obtain ⟨curL, hL⟩ := own_heap h.b.oL
  obtain ⟨curA, hA⟩ := own_heap h.b.oA
  obtain ⟨curH, hH⟩ := own_heap h.b.oH
  have hBL : X.bL ≠ B := ne_type hL h.b.hd (by decide)
  have hBA : X.bA ≠ B := ne_type hA h.b.hd (by decide)
  have hBH : X.bH ≠ B := ne_type hH h.b.hd (by decide)
  have hBD : X.bD ≠ B := ne_type hD h.b.hd (by decide)
  have hBP : X.vp.ownBlock ≠ some B := fun e => by
    have hp := h.b.oP
    rcases hp.2 with ⟨e2, -⟩ | ⟨g, c, cur, e2, -, hh, -⟩
    · rw [e2] at e; simp [Value.ownBlock] at e
    · rw [e2] at e
      have : g = B := by simpa [Value.ownBlock] using e
      exact ne_type hh h.b.hd (by decide) this
  have hE : Ex G w (w.setCell ⟨B, 8, none⟩ v) := Ex.setCell w B 8 (h.g _ (by unfold Mv.foot; simp)) v
  refine ⟨⟨?_, own_set h.b.oL (by simp [Value.ownBlock, hBL]), own_set h.b.oA (by simp [Value.ownBlock, hBA]), own_set h.b.oH (by simp [Value.ownBlock, hBH]), own_set h.b.oD (by simp [Value.ownBlock, hBD]), own_set h.b.oP hBP, h.b.lp, h.b.nL, h.b.nA, h.b.nH, h.b.nD⟩, ?_, h.g, h.d, fun k hk => by have := h.lt k hk; simpa [World.setCell] using this⟩
  · have := h.b.hd
    simp [World.setCell, Array.getElem?_modify, this]
  · intro W hW
    have h1 := h.f W (hE.trans hW)
    exact ⟨h1.L, h1.A, h1.D, hv W (hE.trans hW), h1.P⟩
/-- What the walk asks of a store into a row of one-cell elements. -/
theorem own_go1 {w : World} {base t n b : Nat} {cs : List Value} (h : w.ownsRow base t 1 (slv b n) n cs) {i : Nat} (hi : i < n) : (∃ v, w.cell? ⟨b, i, none⟩ = some v) ∧ w.frozen? ⟨b, i, none⟩ = false := ⟨⟨_, own_at h hi⟩, h.frozenAt i⟩
theorem Mb.free {w : World} {B n : Nat} {vn vu vq vg : Value} {X : Mv} {m : St} (h : Mb w B n vn vu vq vg X m) (i : Nat) : w.frozen? ⟨B, i, none⟩ = false := frozen_of_row w B i _ _ h.hd
/-- What an operation of the model leaves: the model, as it is then; nothing but its own blocks is another one. -/
structure Left (G : Nat → Prop) (w w' : World) (B n : Nat) (vn vu vq vg : Value) (X X' : Mv) (m' : St) : Prop where
  mem : Mem (fun k => G k ∨ X'.foot B k) w' B n vn vu vq vg X' m'
  ex : Ex (X.foot B) w w'
  foot : ∀ k, X'.foot B k → X.foot B k ∨ w.heap.size ≤ k
/-- The same blocks as ahead. -/
theorem Left.same {G : Nat → Prop} {w w' : World} {B n : Nat} {vn vu vq vg : Value} {X X' : Mv} {m' : St} (h : Mem G w' B n vn vu vq vg X' m') (hx : Ex (X.foot B) w w') (hf : ∀ k, X'.foot B k → X.foot B k) : Left G w w' B n vn vu vq vg X X' m' := by
  have e : (fun k => G k ∨ X'.foot B k) = G := by
    funext k
    exact propext ⟨fun h2 => h2.elim id (h.g k), .inl⟩
  exact ⟨by rw [e]; exact h, hx, fun k hk => .inl (hf k hk)⟩
/-- With a block more that may be written: one of the call's own. -/
theorem Mem.wide {G : Nat → Prop} {w w2 : World} {B n R : Nat} {vn vu vq vg : Value} {X : Mv} {m : St} (h : Mem G w B n vn vu vq vg X m) (hb : Below w.heap.size w w2) (hR : w.heap.size ≤ R) (hR2 : R < w2.heap.size) : Mem (fun k => G k ∨ k = R) w2 B n vn vu vq vg X m := by
  refine ⟨h.b.below hb, h.f.wide (Ex.of_below hb) fun k hk hg => ?_, fun k hk => .inl (h.g k hk), h.d, fun k hk => ?_⟩
  · rcases hg with hg | rfl
    · exact hg
    · omega
  · rcases hk with hk | rfl
    · exact Nat.lt_of_lt_of_le (h.lt k hk) hb.size
    · exact hR2
/-- With fewer. -/
theorem Mem.narrow {G G' : Nat → Prop} {w : World} {B n : Nat} {vn vu vq vg : Value} {X : Mv} {m : St} (h : Mem G' w B n vn vu vq vg X m) (hG : ∀ k, G k → G' k) (hf : ∀ k, X.foot B k → G k) : Mem G w B n vn vu vq vg X m :=
  ⟨h.b, fun W hW => h.f W (hW.mono fun k _ hk => hG k hk), hf, h.d, fun k hk => h.lt k (hG k hk)⟩
theorem ex_rbwR (w : World) (R : Nat) (e n : Int) (vr vc : Value) : Ex (fun k => k = R) w (rbw w R e n vr vc) := by
  unfold rbw
  have h0 := Ex.setCell (G := fun k => k = R) w R 0 rfl (.int .i64 e)
  have h1 := h0.trans (Ex.setCell (G := fun k => k = R) _ R 1 rfl (.int .i64 n))
  have h2 := h1.trans (Ex.setCell (G := fun k => k = R) _ R 2 rfl vr)
  have h3 := h2.trans (Ex.setCell (G := fun k => k = R) _ R 3 rfl (.int .i64 0))
  have h4 := h3.trans (Ex.setCell (G := fun k => k = R) _ R 4 rfl (.int .i64 0))
  have h5 := h4.trans (Ex.setCell (G := fun k => k = R) _ R 5 rfl (.int .i64 0))
  have h6 := h5.trans (Ex.setCell (G := fun k => k = R) _ R 6 rfl (.int .i64 0))
  exact h6.trans (Ex.setCell (G := fun k => k = R) _ R 7 rfl vc)
/-- A block that is none of the model's own is written. -/
theorem Mem.ex {G : Nat → Prop} {w w' : World} {B n R : Nat} {vn vu vq vg : Value} {X : Mv} {m : St} (h : Mem G w B n vn vu vq vg X m) (hx : Ex (fun k => k = R) w w') (hR : ¬ X.foot B R) (hG : G R) : Mem G w' B n vn vu vq vg X m := by
  unfold Mv.foot at hR
  simp only [not_or] at hR
  obtain ⟨r0, r1, r2, r3, r4, r5⟩ := hR
  refine ⟨⟨(hx.block B h.b.lt (Ne.symm r0)).trans h.b.hd, own_ex h.b.oL ?_ hx, own_ex h.b.oA ?_ hx, own_ex h.b.oH ?_ hx, own_ex h.b.oD ?_ hx, own_ex h.b.oP ?_ hx, h.b.lp, h.b.nL, h.b.nA, h.b.nH, h.b.nD⟩, h.f.on (hx.mono fun k _ hk => by rw [hk]; exact hG), h.g, h.d, fun k hk => Nat.lt_of_lt_of_le (h.lt k hk) hx.size⟩
  · rintro k hk rfl; simp [Value.ownBlock] at hk; exact r1 hk.symm
  · rintro k hk rfl; simp [Value.ownBlock] at hk; exact r2 hk.symm
  · rintro k hk rfl; simp [Value.ownBlock] at hk; exact r3 hk.symm
  · rintro k hk rfl; simp [Value.ownBlock] at hk; exact r4 hk.symm
  · rintro k hk rfl; exact r5 hk
theorem ex_cell {G : Nat → Prop} {w W : World} (hx : Ex G w W) {b i : Nat} (hb : b < w.heap.size) (hg : ¬ G b) : W.cell? ⟨b, i, none⟩ = w.cell? ⟨b, i, none⟩ := World.cell?_of_block (w := w) (a := ⟨b, i, none⟩) (hx.block b hb hg)
theorem ex_grow' (G : Nat → Prop) : Grow (Ex G) := ⟨fun _ => Ex.refl _ _, fun _ _ _ h k => h.trans k⟩
instance exSome (G : Nat → Prop) (W : World) : Nonempty (LaterR (Ex G) W) := ⟨⟨W, Ex.refl _ _⟩⟩
theorem Eo.fz {G : Nat → Prop} {w : World} {base : Nat} {v : Value} {l : List En} (h : Eo w base v l) (hG : ∀ k, G k → k < base) : Fz G w (fun W => Es W v l) := fun _ hx =>
  Three.Ss.of_owns (own_ex h (fun k hk hg => by have := ownBlock_ge h k hk; have := hG k hg; omega) hx)
/-- The result's block, while the model is written. -/
theorem Rb.ex {G : Nat → Prop} {w W : World} {R : Nat} {e n : Int} {vr vc : Value} (h : Rb w R e n vr vc) (hx : Ex G w W) (hR : ¬ G R) : Rb W R e n vr vc := (hx.block R h.lt hR).trans h
/-- What the operation leaves when its result lies in a block of its own. -/
theorem Left.res {G : Nat → Prop} {w wn : World} {B n R : Nat} {vn vu vq vg : Value} {X X' : Mv} {m' : St} (hw : ∀ k, G k → k < w.heap.size) (hXG : ∀ k, X.foot B k → G k)
    (hM : Mem (fun k => (G k ∨ X'.foot B k) ∨ k = R) wn B n vn vu vq vg X' m') (hx : Ex (X.foot B) w wn) (hR : w.heap.size ≤ R) (hf : ∀ k, X'.foot B k → X.foot B k ∨ w.heap.size ≤ k ∧ k ≠ R) (e n1 : Int) (vr vc : Value) :
    Left G w (rbw wn R e n1 vr vc) B n vn vu vq vg X X' m' := by
  have hnR : ¬ X'.foot B R := fun h => by
    rcases hf R h with h | h
    · have := hw R (hXG R h); omega
    · exact h.2 rfl
  exact ⟨(hM.ex (ex_rbwR wn R e n1 vr vc) hnR (.inr rfl)).narrow (fun k hk => .inl hk) (fun k hk => .inr hk), ex_rbw hx hR e n1 vr vc, fun k hk => (hf k hk).imp id (·.1)⟩
/-- The same blocks as ahead. -/
theorem Left.res1 {G : Nat → Prop} {w wn : World} {B n R : Nat} {vn vu vq vg : Value} {X X' : Mv} {m' : St} (hw : ∀ k, G k → k < w.heap.size) (hXG : ∀ k, X.foot B k → G k)
    (hM : Mem (fun k => G k ∨ k = R) wn B n vn vu vq vg X' m') (hx : Ex (X.foot B) w wn) (hR : w.heap.size ≤ R) (hf : X'.foot B = X.foot B) (e n1 : Int) (vr vc : Value) :
    Left G w (rbw wn R e n1 vr vc) B n vn vu vq vg X X' m' := by
  refine Left.res hw hXG ?_ hx hR (fun k hk => .inl (by rw [← hf]; exact hk)) e n1 vr vc
  have e1 : (fun k => (G k ∨ X'.foot B k) ∨ k = R) = fun k => G k ∨ k = R := by
    funext k
    rw [hf]
    exact propext ⟨fun h2 => h2.imp (fun h3 => h3.elim id (hXG k)) id, fun h2 => h2.imp .inl id⟩
  rw [e1]
  exact hM
/-- The cells of the model, where the draft's or another block alone is written. -/
theorem Mem.ne {G : Nat → Prop} {w : World} {B n : Nat} {vn vu vq vg : Value} {X : Mv} {m : St} (h : Mem G w B n vn vu vq vg X m) : X.bL ≠ B ∧ X.bA ≠ B ∧ X.bH ≠ B ∧ X.bD ≠ B ∧ X.bL ≠ X.bA ∧ X.bL ≠ X.bH ∧ X.bL ≠ X.bD ∧ X.bA ≠ X.bH ∧ X.bA ≠ X.bD ∧ X.bH ≠ X.bD := by
  obtain ⟨curD, hD⟩ := own_heap h.b.oD
  obtain ⟨curL, hL⟩ := own_heap h.b.oL
  obtain ⟨curA, hA⟩ := own_heap h.b.oA
  obtain ⟨curH, hH⟩ := own_heap h.b.oH
  exact ⟨ne_type hL h.b.hd (by decide), ne_type hA h.b.hd (by decide), ne_type hH h.b.hd (by decide), ne_type hD h.b.hd (by decide), ne_type hL hA (by decide), ne_type hL hH (by decide), h.d, ne_type hA hH (by decide), ne_type hA hD (by decide), ne_type hH hD (by decide)⟩
/-- The operation's fields, while the model is written. -/
theorem Ent.atx {w w1 : World} {Qo B n : Nat} {vn vu vq vg : Value} {X : Mv} {m : St} {o : Opr} {u : Value} (h : Ent w w1 Qo B n vn vu vq vg X m o u) {G : Nat → Prop} {W : World} (hx : Ex G w1 W) (hq : ¬ G Qo) :
    (W.cell? ⟨Qo, 0, none⟩ = some (.int .i64 o.kind) ∧ W.cell? ⟨Qo, 1, none⟩ = some (.int .i64 o.level) ∧ W.cell? ⟨Qo, 2, none⟩ = some (.int .i64 o.ses) ∧ W.cell? ⟨Qo, 3, none⟩ = some (.int .i64 o.snap) ∧ W.cell? ⟨Qo, 4, none⟩ = some (.string (str o.bucket)) ∧ W.cell? ⟨Qo, 5, none⟩ = some (.string (str o.key)) ∧ W.cell? ⟨Qo, 6, none⟩ = some (.string (str o.val)) ∧ W.cell? ⟨Qo, 7, none⟩ = some (.int .i64 o.label) ∧ W.cell? ⟨Qo, 8, none⟩ = some (.int .i64 o.to) ∧ W.cell? ⟨Qo, 9, none⟩ = some (.int .i64 o.n) ∧ W.cell? ⟨Qo, 10, none⟩ = some u) := by
  obtain ⟨c0, c1, c2, c3, c4, c5, c6, c7, c8, c9, c10⟩ := h.at (Below.refl _ _)
  have e := fun i => ex_cell (i := i) hx h.lo hq
  exact ⟨(e 0).trans c0, (e 1).trans c1, (e 2).trans c2, (e 3).trans c3, (e 4).trans c4, (e 5).trans c5, (e 6).trans c6, (e 7).trans c7, (e 8).trans c8, (e 9).trans c9, (e 10).trans c10⟩
/-- A label's list, as it stays. -/
theorem Mem.fzL {G : Nat → Prop} {w : World} {B n : Nat} {vn vu vq vg : Value} {X : Mv} {m : St} (h : Mem G w B n vn vu vq vg X m) {i : Nat} (hi : i < n) : ∃ a c, w.cell? ⟨X.bL, i, none⟩ = some (.slice a (m.L.getD i []).length c) ∧ Fz G w (fun W => Es W (.slice a (m.L.getD i []).length c) (m.L.getD i [])) := by
  obtain ⟨u, hu, hc, hs⟩ := h.mr.listL hi
  obtain ⟨a, c, rfl, -⟩ := hs.shape
  refine ⟨a, c, hc, fun W hW => ?_⟩
  have h1 := own_len h.b.oL
  have h2 := h.b.nL
  have h3 := (h.f W hW).L i (by omega) (by omega)
  rw [List.getElem?_eq_getElem (by omega)] at hu
  rw [Option.some.inj hu] at h3
  have e : m.L.getD i [] = m.L[i]'(by omega) := by rw [List.getD_eq_getElem?_getD, List.getElem?_eq_getElem (by omega), Option.getD_some]
  rw [← e] at h3
  exact h3
theorem Mem.fzD {G : Nat → Prop} {w : World} {B n : Nat} {vn vu vq vg : Value} {X : Mv} {m : St} (h : Mem G w B n vn vu vq vg X m) {i : Nat} (hi : i < n) : ∃ a c, w.cell? ⟨X.bD, i, none⟩ = some (.slice a (m.dr.getD i []).length c) ∧ Fz G w (fun W => Es W (.slice a (m.dr.getD i []).length c) (m.dr.getD i [])) := by
  obtain ⟨u, hu, hc, hs⟩ := h.mr.listD hi
  obtain ⟨a, c, rfl, -⟩ := hs.shape
  refine ⟨a, c, hc, fun W hW => ?_⟩
  have h1 := own_len h.b.oD
  have h2 := h.b.nD
  have h3 := (h.f W hW).D i (by omega) (by omega)
  rw [List.getElem?_eq_getElem (by omega)] at hu
  rw [Option.some.inj hu] at h3
  have e : m.dr.getD i [] = m.dr[i]'(by omega) := by rw [List.getD_eq_getElem?_getD, List.getElem?_eq_getElem (by omega), Option.getD_some]
  rw [← e] at h3
  exact h3
/-- What a write leaves. -/
def MutPost (G : Nat → Prop) (w : World) (B n : Nat) (vn vu vq vg : Value) (X : Mv) (r : Res) (m' : St) (e : Ending) (w' : World) : Prop :=
  ∃ X', e = .returned (resv r.e r.n (.slice none 0 0) (.slice none 0 0)) ∧ Left G w w' B n vn vu vq vg X X' m'
theorem made_one (z : Value) (n : Nat) : (madeCells #[z] n).toList = List.replicate n z := by
  refine List.ext_getElem (by simp [madeCells]) fun i h1 h2 => ?_
  simp [madeCells, Nat.mod_one]
/-- Other snapshots, their row in a block that was grown, or a new one. -/
theorem Mem.setP {G : Nat → Prop} {w0 w : World} {B n : Nat} {vn vu vq vg : Value} {X : Mv} {m : St} (h : Mem G w0 B n vn vu vq vg X m) (hg : w0.grownBy w X.vp.ownBlock) (v : Value) (ps : List (Value × List Value)) (sn : List Snp)
    (ho : w.ownsRow 0 107 4 v sn.length (snpCells (List.zipWith Snp4.put sn (ps.map (·.1))))) (hl : ps.length = sn.length) (hs : v.ownBlock = X.vp.ownBlock ∨ ∀ k, v.ownBlock = some k → w0.heap.size ≤ k)
    (hf : Fz (fun k => G k ∨ v.ownBlock = some k) w (fun W => ∀ i (h : i < ps.length) (h2 : i < sn.length), Lv W ps[i].1 ps[i].2 sn[i].l)) :
    Mem (fun k => G k ∨ v.ownBlock = some k) (w.setCell ⟨B, 9, none⟩ v) B n vn vu vq vg { X with vp := v, ps := ps } { m with sn := sn } := by
  obtain ⟨curD, hD⟩ := own_heap h.b.oD
  obtain ⟨curL, hL⟩ := own_heap h.b.oL
  obtain ⟨curA, hA⟩ := own_heap h.b.oA
  obtain ⟨curH, hH⟩ := own_heap h.b.oH
  have hBL : X.bL ≠ B := ne_type hL h.b.hd (by decide)
  have hBA : X.bA ≠ B := ne_type hA h.b.hd (by decide)
  have hBH : X.bH ≠ B := ne_type hH h.b.hd (by decide)
  have hBD : X.bD ≠ B := ne_type hD h.b.hd (by decide)
  have hPB : X.vp.ownBlock ≠ some B := fun e => by
    rcases h.b.oP.2 with ⟨e2, -⟩ | ⟨g, c, cur, e2, -, hh, -⟩
    · rw [e2] at e; simp [Value.ownBlock] at e
    · rw [e2] at e
      have : g = B := by simpa [Value.ownBlock] using e
      exact ne_type hh h.b.hd (by decide) this
  have hhd : w.heap[B]? = w0.heap[B]? := hg.block B h.b.lt (fun e => hPB e.symm)
  have hBP : v.ownBlock ≠ some B := fun e => by
    rcases hs with hs | hs
    · exact hPB (hs ▸ e)
    · have h1 := hs B e
      have h2 := h.b.lt
      omega
  have gL := own_grown h.b.oL hg (fun k hk e => own_type h.b.oP h.b.oL (by decide) k e hk)
  have gA := own_grown h.b.oA hg (fun k hk e => own_type h.b.oP h.b.oA (by decide) k e hk)
  have gH := own_grown h.b.oH hg (fun k hk e => own_type h.b.oP h.b.oH (by decide) k e hk)
  have gD := own_grown h.b.oD hg (fun k hk e => own_type h.b.oP h.b.oD (by decide) k e hk)
  have hE : Ex (fun k => G k ∨ v.ownBlock = some k) w (w.setCell ⟨B, 9, none⟩ v) := Ex.setCell w B 9 (.inl (h.g _ (by unfold Mv.foot; simp))) v
  have hG : ∀ k, k < w0.heap.size → (G k ∨ v.ownBlock = some k) → G k := fun k hk hh => by
    rcases hh with hh | hh
    · exact hh
    · rcases hs with hs | hs
      · exact h.g k (by unfold Mv.foot; simp [← hs, hh])
      · have := hs k hh; omega
  refine ⟨⟨?_, own_set gL (by simp [Value.ownBlock, hBL]), own_set gA (by simp [Value.ownBlock, hBA]), own_set gH (by simp [Value.ownBlock, hBH]), own_set gD (by simp [Value.ownBlock, hBD]), own_set ho hBP, hl, h.b.nL, h.b.nA, h.b.nH, h.b.nD⟩, ?_, ?_, h.d, ?_⟩
  · have := hhd.trans h.b.hd
    simp [World.setCell, Array.getElem?_modify, this]
  · have hw := h.f.wide (ex_grown hg fun k hk => h.g k (by unfold Mv.foot; simp [hk])) hG
    intro W hW
    have h1 := hw W (hE.trans hW)
    exact ⟨h1.L, h1.A, h1.D, h1.S, hf W (hE.trans hW)⟩
  · intro k hk
    unfold Mv.foot at hk
    simp only [] at hk
    rcases hk with hk | hk | hk | hk | hk | hk
    · exact .inl (h.g k (by unfold Mv.foot; simp [hk]))
    · exact .inl (h.g k (by unfold Mv.foot; simp [hk]))
    · exact .inl (h.g k (by unfold Mv.foot; simp [hk]))
    · exact .inl (h.g k (by unfold Mv.foot; simp [hk]))
    · exact .inl (h.g k (by unfold Mv.foot; simp [hk]))
    · exact .inr hk
  · intro k hk
    have e1 : (w.setCell ⟨B, 9, none⟩ v).heap.size = w.heap.size := by simp [World.setCell]
    rw [e1]
    rcases hk with hk | hk
    · exact Nat.lt_of_lt_of_le (h.lt k hk) hg.size
    · exact own_lt ho k hk
/-- Another row of sessions that have transactions. -/
theorem Mem.setBH {G : Nat → Prop} {w : World} {B n : Nat} {vn vu vq vg : Value} {X : Mv} {m : St} (h : Mem G w B n vn vu vq vg X m) (b : Nat) (l : List Int) (ho : w.ownsRow 0 3 1 (slv b n) n (intsV l)) (hl : l.length = n) (hb : G b) :
    Mem G (w.setCell ⟨B, 6, none⟩ (slv b n)) B n vn vu vq vg { X with bH := b } { m with has := l } := by
  obtain ⟨curD, hD⟩ := own_heap h.b.oD
  obtain ⟨curL, hL⟩ := own_heap h.b.oL
  obtain ⟨curA, hA⟩ := own_heap h.b.oA
  obtain ⟨curH, hH⟩ := own_heap ho
  have hBL : X.bL ≠ B := ne_type hL h.b.hd (by decide)
  have hBA : X.bA ≠ B := ne_type hA h.b.hd (by decide)
  have hBH : b ≠ B := ne_type hH h.b.hd (by decide)
  have hBD : X.bD ≠ B := ne_type hD h.b.hd (by decide)
  have hBP : X.vp.ownBlock ≠ some B := fun e => by
    rcases h.b.oP.2 with ⟨e2, -⟩ | ⟨g, c, cur, e2, -, hh, -⟩
    · rw [e2] at e; simp [Value.ownBlock] at e
    · rw [e2] at e
      have : g = B := by simpa [Value.ownBlock] using e
      exact ne_type hh h.b.hd (by decide) this
  have hE : Ex G w (w.setCell ⟨B, 6, none⟩ (slv b n)) := Ex.setCell w B 6 (h.g _ (by unfold Mv.foot; simp)) _
  refine ⟨⟨?_, own_set h.b.oL (by simp [Value.ownBlock, hBL]), own_set h.b.oA (by simp [Value.ownBlock, hBA]), own_set ho (by simp [Value.ownBlock, hBH]), own_set h.b.oD (by simp [Value.ownBlock, hBD]), own_set h.b.oP hBP, h.b.lp, h.b.nL, h.b.nA, hl, h.b.nD⟩, ?_, ?_, h.d, fun k hk => by have := h.lt k hk; simpa [World.setCell] using this⟩
  · have := h.b.hd
    simp [World.setCell, Array.getElem?_modify, this]
  · intro W hW
    have h1 := h.f W (hE.trans hW)
    exact ⟨h1.L, h1.A, h1.D, h1.S, h1.P⟩
  · intro k hk
    unfold Mv.foot at hk
    simp only [] at hk
    rcases hk with hk | hk | hk | hk | hk | hk
    · exact h.g k (by unfold Mv.foot; simp [hk])
    · exact h.g k (by unfold Mv.foot; simp [hk])
    · exact h.g k (by unfold Mv.foot; simp [hk])
    · rw [hk]; exact hb
    · exact h.g k (by unfold Mv.foot; simp [hk])
    · exact h.g k (by unfold Mv.foot; simp [hk])
end Go.Proofs.YtmapmeacjpoaoaaDoor
