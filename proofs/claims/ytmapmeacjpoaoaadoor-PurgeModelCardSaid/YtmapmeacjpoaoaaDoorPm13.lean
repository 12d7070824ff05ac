/- What the model's read returns. -/
import Derived.Test.YtmapmeacjpoaoaaDoorPm12
namespace Go.Proofs.YtmapmeacjpoaoaaDoor
open Go Go.RowKit

theorem infoVs : (Tryd.prog.info? 40).map (fun i => (i.zero, i.size, i.bytes)) = some (some (.slice none 0 0), 1, 24) := by kernel_rfl
theorem Rz.nil (w w' : World) : Rz w w' (.slice none 0 0) [] := fun _ _ _ _ => Three.Ss.nil _
theorem ex_rbw2 (w : World) (R : Nat) (e n : Int) (vr vc : Value) : Ex (fun k => k = R) w (rbw w R e n vr vc) := by
  unfold rbw
  have h0 := Ex.setCell (G := fun k => k = R) w R 0 rfl (.int .i64 e)
  have h1 := h0.trans (Ex.setCell (G := fun k => k = R) _ R 1 rfl (.int .i64 n))
  have h2 := h1.trans (Ex.setCell (G := fun k => k = R) _ R 2 rfl vr)
  have h3 := h2.trans (Ex.setCell (G := fun k => k = R) _ R 3 rfl (.int .i64 0))
  have h4 := h3.trans (Ex.setCell (G := fun k => k = R) _ R 4 rfl (.int .i64 0))
  have h5 := h4.trans (Ex.setCell (G := fun k => k = R) _ R 5 rfl (.int .i64 0))
  have h6 := h5.trans (Ex.setCell (G := fun k => k = R) _ R 6 rfl (.int .i64 0))
  exact h6.trans (Ex.setCell (G := fun k => k = R) _ R 7 rfl vc)
theorem Rz.res {w wr wn : World} {v : Value} {l : List Rw} {R : Nat} (h : Rz wr wn v l) (hR : R < wr.heap.size) (hs : w.heap.size ≤ wr.heap.size) (e n : Int) (vr vc : Value) : Rz w (rbw wn R e n vr vc) v l := fun G hG W hW => by
  have hx := ex_rbw2 wn R e n vr vc
  generalize rbw wn R e n vr vc = w' at *
  refine h (fun k => G k ∨ k = R) ?_ W ((hx.mono fun k _ h => .inr h).trans (hW.mono fun k _ h => .inl h))
  rintro k (hk | rfl)
  · have := hG k hk; omega
  · exact hR
theorem Rz.own {w wr : World} {base t n' : Nat} {v : Value} {l : List Rw} {R : Nat} (h : wr.ownsRow base t 3 v n' (RW.cells l)) (hR : R < base) (hs : w.heap.size ≤ base) (e n : Int) (vr vc : Value) : Rz w (rbw wr R e n vr vc) v l := fun G hG W hW => by
  have hx := ex_rbw2 wr R e n vr vc
  generalize rbw wr R e n vr vc = w' at *
  have h1 := own_ex h (fun k hk e => by have := ownBlock_ge h k hk; omega) hx
  exact Three.Ss.of_owns (own_ex h1 (fun k hk hg => by have := ownBlock_ge h k hk; have := hG k hg; omega) hW)
namespace M
theorem rfold_step (us : List Nat) (m : St) (o : Opr) (k : Nat) : rfold us m o (k + 1) = rstep us m o (rfold us m o k) k := by
  unfold rfold
  rw [List.range_succ, List.foldl_append]
  rfl
theorem allOf_len (o : Opr) (x : Nat) (l : List En) : (allOf o x l).length ≤ l.length := by unfold allOf; rw [List.length_map]; exact List.length_filter_le _ _
theorem ownOf_len (o : Opr) (x : Nat) (l : List En) : (ownOf o x l).length ≤ l.length := by unfold ownOf; rw [List.length_map]; exact List.length_filter_le _ _
theorem allOf_step {o : Opr} {x : Nat} {l : List En} {i : Nat} (h : i < l.length) : allOf o x (l.take (i + 1)) = allOf o x (l.take i) ++ (if inB o l[i] && (l[i].2.1 == o.key) then [(o.key, (x : Int), l[i].2.2)] else []) := by
  unfold allOf
  rw [List.take_succ_eq_append_getElem h, List.filter_append, List.map_append]
  congr 1
  cases hc : inB o l[i] && (l[i].2.1 == o.key) <;> simp [hc]
theorem ownOf_step {o : Opr} {x : Nat} {l : List En} {i : Nat} (h : i < l.length) : ownOf o x (l.take (i + 1)) = ownOf o x (l.take i) ++ (if inB o l[i] && !(blt l[i].2.1 o.key) then [(l[i].2.1, (x : Int), l[i].2.2)] else []) := by
  unfold ownOf
  rw [List.take_succ_eq_append_getElem h, List.filter_append, List.map_append]
  congr 1
  cases hc : inB o l[i] && !(blt l[i].2.1 o.key) <;> simp [hc]
theorem rfold_len {us : List Nat} {m : St} {o : Opr} {n : Nat} (h : ∀ x, x < n → (sees m o x).length ≤ 1000) : ∀ k, k ≤ n → (rfold us m o k).all.length ≤ k * 1000 ∧ (rfold us m o k).rows.length ≤ k ∧ (rfold us m o k).rows.flatten.length ≤ k * 1000
  | 0, _ => by simp [rfold]
  | k + 1, hk => by
    obtain ⟨h1, h2, h3⟩ := rfold_len (us := us) h k (by omega)
    have h4 := h k (by omega)
    have h5 := allOf_len o k (sees m o k)
    have h6 := ownOf_len o k (sees m o k)
    rw [rfold_step]
    unfold rstep
    split
    · simp only [List.length_append, List.length_singleton, List.flatten_append, List.flatten_cons, List.flatten_nil, List.append_nil]
      omega
    · omega
theorem union_eq {rows : List (List Rw)} {C : List Rw} (h : S.IsSort rows.flatten C) (k : Int) : union rows k = C.take (S.upto k C.length) := by
  have : sorted rows.flatten = C := by
    have hx : ∃ C, S.IsSort rows.flatten C := ⟨C, h⟩
    unfold sorted
    rw [dif_pos hx]
    exact hx.choose_spec.eq h
  unfold union
  rw [this]
end M

set_option maxRecDepth 4000 in
set_option maxHeartbeats 16000000 in
theorem read_any (w : World) (B n : Nat) (vn vu vq vg : Value) (X : Mv) (m : St) (o : Opr) (u : Value) (us : List Nat) (h : Mr w B n vn vu vq vg X m) (hp : ∀ p ∈ m.sn, p.l.length = n) (hU : Us w vu us) (hU64 : U64s us) (hn : us.length = n) (h64 : n ≤ 64) (hk : ∀ x, x < n → (M.sees m o x).length ≤ 1000) :
    Calls Tryd.prog 25 #[.pointer (some ⟨B, 0, none⟩), opv (o.put u)] w fun e w' => ∃ vr, e = .returned (resv (M.read us m o).e (M.read us m o).n vr (.slice none 0 0)) ∧ Rz w w' vr (M.read us m o).rows ∧ Below w.heap.size w w' := by
  have hE := (Ent.box h o u).alloc ((Below.refl _ _).alloc (Nat.le_refl _) (.cells #[.int .i64 0, .int .i64 0, (.slice none 0 0), .int .i64 0, .int .i64 0, .int .i64 0, .int .i64 0, (.slice none 0 0)] 45))
  have hR : Rb ((w.alloc (.cells (opc o u) 33)).alloc (.cells #[.int .i64 0, .int .i64 0, (.slice none 0 0), .int .i64 0, .int .i64 0, .int .i64 0, .int .i64 0, (.slice none 0 0)] 45)) (w.alloc (.cells (opc o u) 33)).heap.size 0 0 (.slice none 0 0) (.slice none 0 0) := heap_alloc_new _ _
  have hR2 : w.heap.size < (w.alloc (.cells (opc o u) 33)).heap.size := by simp
  obtain ⟨w2, hw2⟩ : ∃ w2, (w.alloc (.cells (opc o u) 33)).alloc (.cells #[.int .i64 0, .int .i64 0, (.slice none 0 0), .int .i64 0, .int .i64 0, .int .i64 0, .int .i64 0, (.slice none 0 0)] 45) = w2 := ⟨_, rfl⟩
  obtain ⟨R, hRR⟩ : ∃ R, (w.alloc (.cells (opc o u) 33)).heap.size = R := ⟨_, rfl⟩
  have hRQ : w.heap.size + 1 = R := by rw [← hRR]; simp
  obtain ⟨Qo, hQo⟩ : ∃ Qo, w.heap.size = Qo := ⟨_, rfl⟩
  rw [hw2] at hE hR
  rw [hRR] at hR hR2
  have HE := Lib.hid hE
  have HR2 := Lib.hid hR2
  have HRb : Hid (∀ W, Below w2.heap.size w2 W → Rb W R 0 0 (.slice none 0 0) (.slice none 0 0)) := fun W hW => hR.later hW
  have HRl : Hid (R < w2.heap.size) := hR.lt
  have hb2 : Below w.heap.size w w2 := hE.b
  have HUs := Lib.hid (fun W (hW : Below w2.heap.size w2 W) => hU.below (below_next hb2 hW))
  have HU64 := Lib.hid hU64
  have HP := Lib.hid hp
  have HK := Lib.hid hk
  have HN := Lib.hid hn
  have HFL := Lib.hid (M.rfold_len (us := us) hk)
  obtain ⟨o0, o1, o2, o3, o4, o5, o6, o7, o8, o9, kk⟩ := o
  have HRD : Hid (M.read us m ⟨o0, o1, o2, o3, o4, o5, o6, o7, o8, o9, kk⟩ = if o3 != 0 && !(M.has m ⟨o0, o1, o2, o3, o4, o5, o6, o7, o8, o9, kk⟩) then M.bad 39 else if !(M.rfold us m ⟨o0, o1, o2, o3, o4, o5, o6, o7, o8, o9, kk⟩ n).some then M.bad 32 else if o0 = 10 then ⟨0, 0, M.union (M.rfold us m ⟨o0, o1, o2, o3, o4, o5, o6, o7, o8, o9, kk⟩ n).rows (M.most o9), []⟩ else if (M.rfold us m ⟨o0, o1, o2, o3, o4, o5, o6, o7, o8, o9, kk⟩ n).all.length = 0 then M.bad 33 else ⟨0, 0, (M.rfold us m ⟨o0, o1, o2, o3, o4, o5, o6, o7, o8, o9, kk⟩ n).all, []⟩) := by unfold Hid M.read; rw [hn]
  obtain ⟨au, cu, rfl, -⟩ := hU.shape
  rw [hn] at HUs HE
  have hb0 : Hid (Below w2.heap.size w2 w2) := Below.refl _ _
  simp only [Op11.put, opc] at hw2 ⊢
  rw [hQo] at hRQ HE
  clear h hE hR hR2 hb2 hU hU64 hp hk hRR
  go_enter Tryd.func25, Tryd.ntmps25
  obtain ⟨-, -, -, p3, -⟩ := HE.out.at hb0.out
  simp only [] at p3
  by_cases h3 : o3 = 0
  · have d3 : (o3 != 0) = false := by simp [h3]
    have HRD : Hid (M.read us m ⟨o0, o1, o2, o3, o4, o5, o6, o7, o8, o9, kk⟩ = if !(M.rfold us m ⟨o0, o1, o2, o3, o4, o5, o6, o7, o8, o9, kk⟩ n).some then M.bad 32 else if o0 = 10 then ⟨0, 0, M.union (M.rfold us m ⟨o0, o1, o2, o3, o4, o5, o6, o7, o8, o9, kk⟩ n).rows (M.most o9), []⟩ else if (M.rfold us m ⟨o0, o1, o2, o3, o4, o5, o6, o7, o8, o9, kk⟩ n).all.length = 0 then M.bad 33 else ⟨0, 0, (M.rfold us m ⟨o0, o1, o2, o3, o4, o5, o6, o7, o8, o9, kk⟩ n).all, []⟩) := by unfold Hid; rw [HRD.out, d3]; rfl
    clear h3
    go_wp2_with fail
    clear hw2 hQo hRQ p3
    go_loopw [5, 6, 7, 8] (fun sm v6 v7 i wr => ∃ (x : Nat) (ul : List Value), x ≤ n ∧ i = .int .i64 x ∧ sm = .bool (M.rfold us m ⟨o0, o1, o2, o3, o4, o5, o6, o7, o8, o9, kk⟩ x).some ∧ Hid (RS wr w2.heap.size v6 v7 (.slice none 0 0) ul (M.rfold us m ⟨o0, o1, o2, o3, o4, o5, o6, o7, o8, o9, kk⟩ x).rows (M.rfold us m ⟨o0, o1, o2, o3, o4, o5, o6, o7, o8, o9, kk⟩ x).all []) ∧ Hid (Below w2.heap.size w2 wr)) (fun _ _ _ i _ => n - (intOf i).toNat)
    case atStart => exact ⟨0, [], by omega, rfl, rfl, RS.nil _ _, hb0⟩
    case round =>
      clear hb0
      obtain ⟨x, ul, hx, rfl, rfl, HS, hbr⟩ := hrel
      by_cases hxn : x < n
      · have hxI : (x : Int) < (n : Int) := by omega
        have hx0 : (0 : Int) ≤ (x : Int) := by omega
        have HST := M.rfold_step us m ⟨o0, o1, o2, o3, o4, o5, o6, o7, o8, o9, kk⟩ x
        have hfl := HFL.out x (by omega)
        obtain ⟨st0, hst0⟩ : ∃ s, M.rfold us m ⟨o0, o1, o2, o3, o4, o5, o6, o7, o8, o9, kk⟩ x = s := ⟨_, rfl⟩
        rw [hst0] at HS HST hfl ⊢
        clear hst0
        obtain ⟨sm, rows, all⟩ := st0
        simp only [] at HS hfl ⊢
        have HST := Lib.hid HST
        have c4 := ((HE.out.m.b.below hbr.out).cells).c4
        go_wp2_with fail
        clear c4
        refine wp_region_mix ext_grow [(0, false), (1, false), (2, false), (3, false), (4, false), (5, false), (6, false), (7, false), (8, false), (9, false)] (by kernel_rfl) (by kernel_rfl) ?_
        have hb3 := Lib.hid (below_next hbr.out (below_drewN wr 1))
        have HS3 := Lib.hid (HS.out.below (below_drewN wr 1))
        clear hbr HS
        have hgd : wr.drewN 1 = wr.drew := rfl
        rw [hgd] at hb3 HS3
        clear hgd
        generalize wr.drew = w3 at *
        have c1 : ∀ z : Later w3, z.1.cell? ⟨B, 1, none⟩ = some (.slice au n cu) := fun z => (HE.out.m.b.below (below_next hb3.out z.2)).cells.c1
        have p1 : ∀ z : Later w3, z.1.cell? ⟨Qo, 1, none⟩ = some (.int .i64 o1) := fun z => (HE.out.at (below_next hb3.out z.2)).2.1
        have HLy : Hid (∀ z : Later w3, Calls Tryd.prog 31 #[.slice au n cu, .int .i64 x, .int .i64 o1] z.1 fun e w' => e = .returned (.bool (L.leq us (x : Int) o1)) ∧ Ext z.1 w') := fun z => (refLeq_any (.slice au n cu) us (x : Int) o1 z.1 (HUs.out z.1 (below_next hb3.out z.2)) HU64.out).mono fun e w' ⟨h1, h2⟩ => ⟨h1, ext_of_eq h2⟩
        obtain ⟨lq, hlq⟩ : ∃ b, L.leq us (x : Int) o1 = b := ⟨_, rfl⟩
        rw [hlq] at HLy
        have HLQ := Lib.hid hlq
        clear hlq
        repeat (refine mix_soft rfl (fun K hK => ?_); go_simp; (first | (refine hK _ ?_; clear hK K) | (apply Exists.intro; refine ⟨fun z => ?_, hK _ ?_⟩; (first | (go_at_call 31; with_reducible exact HLy.out z)); clear hK K)))
        refine mix_done fun w4 hx4 => ?_
        have hb4 := Lib.hid (below_next hb3.out hx4)
        have HS4 := Lib.hid (HS3.out.below hx4)
        clear hx4 hb3 HS3 c1 p1 HLy
        cases lq with
        | false =>
          have HSTf : Hid (M.rfold us m ⟨o0, o1, o2, o3, o4, o5, o6, o7, o8, o9, kk⟩ (x + 1) = ⟨sm, rows, all⟩) := by unfold Hid; rw [HST.out]; unfold M.rstep; rw [HLQ.out]; rfl
          go_wp2_with fail
          go_roundw
          case rel => exact ⟨x + 1, ul, by omega, by go_num, by rw [HSTf.out], by rw [HSTf.out]; exact HS4.out, hb4⟩
          case measure => simp [intOf]; omega
        | true =>
          have st := Lib.hid (sees_any w2 w4 B n vn (.slice au n cu) vq vg X m ⟨o0, o1, o2, o3, o4, o5, o6, o7, o8, o9, kk⟩ u x HE.out.m hb4.out HP.out hxn (by omega))
          obtain ⟨p0, p1, p2, p3, p4, p5, p6, p7, p8, p9, p10⟩ := HE.out.at hb4.out
          simp only [] at p0 p1 p2 p3 p4 p5 p6 p7 p8 p9
          go_wp2_with fail
          refine st.out.mono ?_
          rintro e w5 ⟨vl, rfl, hes, hx5⟩
          have hb5 := Lib.hid (below_next hb4.out hx5)
          have HS5 := Lib.hid (HS4.out.below hx5)
          have HEs := Lib.hid hes
          have hkl := HK.out x hxn
          clear hx5 st p0 p1 p2 p3 p4 p5 p6 p7 p8 p9 p10 hb4 HS4 hes
          obtain ⟨l, hl⟩ : ∃ l, M.sees m ⟨o0, o1, o2, o3, o4, o5, o6, o7, o8, o9, kk⟩ x = l := ⟨_, rfl⟩
          rw [hl] at HEs hkl
          obtain ⟨N, hN⟩ : ∃ N, l.length = N := ⟨_, rfl⟩
          rw [hN] at hkl
          have HLn := Lib.hid hN
          clear hN
          have HSTt : Hid (M.rfold us m ⟨o0, o1, o2, o3, o4, o5, o6, o7, o8, o9, kk⟩ (x + 1) = ⟨sm || decide (0 ≤ M.find l o4 []), rows ++ [M.ownOf ⟨o0, o1, o2, o3, o4, o5, o6, o7, o8, o9, kk⟩ x l], all ++ M.allOf ⟨o0, o1, o2, o3, o4, o5, o6, o7, o8, o9, kk⟩ x l⟩) := by unfold Hid; rw [HST.out]; unfold M.rstep; rw [HLQ.out, if_pos rfl, hl]
          obtain ⟨-, -, -, -, q4, -⟩ := HE.out.at hb5.out
          simp only [] at q4
          have hfle := M.find_le l o4 []
          have HF := Lib.hid (mfind_any vl l o4 [] w5 (Sl.below HEs.out hb5.out))
          clear hl HST
          cases sm with
          | true =>
            have HSTt : Hid (M.rfold us m ⟨o0, o1, o2, o3, o4, o5, o6, o7, o8, o9, kk⟩ (x + 1) = ⟨true, rows ++ [M.ownOf ⟨o0, o1, o2, o3, o4, o5, o6, o7, o8, o9, kk⟩ x l], all ++ M.allOf ⟨o0, o1, o2, o3, o4, o5, o6, o7, o8, o9, kk⟩ x l⟩) := HSTt.out
            clear HF
            obtain ⟨al, cl, rfl, -⟩ := HEs.out.shape
            rw [HLn.out] at HEs ⊢
            clear q4
            go_wp2_with fail
            go_loopw [7, 10, 11] (fun v7 v10 i wr => ∃ j : Nat, j ≤ N ∧ i = .int .i64 j ∧ Hid (RS wr w2.heap.size u6 v7 v10 ul rows (all ++ M.allOf ⟨o0, o1, o2, o3, o4, o5, o6, o7, o8, o9, kk⟩ x (l.take j)) (M.ownOf ⟨o0, o1, o2, o3, o4, o5, o6, o7, o8, o9, kk⟩ x (l.take j))) ∧ Hid (Below w2.heap.size w2 wr)) (fun _ _ i _ => N - (intOf i).toNat)
            case atStart => exact ⟨0, by omega, rfl, (by unfold Hid; simpa [M.allOf, M.ownOf] using HS5.out), hb5⟩
            case round =>
              clear HS5 hb5
              obtain ⟨j, hj, rfl, HS, hbr⟩ := hrel
              have hla := M.allOf_len ⟨o0, o1, o2, o3, o4, o5, o6, o7, o8, o9, kk⟩ x (l.take j)
              have hlo := M.ownOf_len ⟨o0, o1, o2, o3, o4, o5, o6, o7, o8, o9, kk⟩ x (l.take j)
              rw [List.length_take, HLn.out, Nat.min_eq_left hj] at hla hlo
              by_cases hjn : j < N
              · have hjI : (j : Int) < (N : Int) := by omega
                have hj0 : (0 : Int) ≤ (j : Int) := by omega
                obtain ⟨bb, off, rfl, hc⟩ := HEs.out.at (k := j) (by rw [HLn.out]; exact hjn)
                have HSa := M.allOf_step (o := ⟨o0, o1, o2, o3, o4, o5, o6, o7, o8, o9, kk⟩) (x := x) (l := l) (i := j) (by rw [HLn.out]; exact hjn)
                have HSo := M.ownOf_step (o := ⟨o0, o1, o2, o3, o4, o5, o6, o7, o8, o9, kk⟩) (x := x) (l := l) (i := j) (by rw [HLn.out]; exact hjn)
                obtain ⟨y, hy⟩ : ∃ y, (l[j]'(by rw [HLn.out]; exact hjn)) = y := ⟨_, rfl⟩
                rw [hy] at hc HSa HSo
                obtain ⟨x0, x1, x2⟩ := y
                simp only [] at hc HSa HSo
                have HCc := Lib.hid hc
                have HSa := Lib.hid HSa
                have HSo := Lib.hid HSo
                obtain ⟨p0, p1, p2⟩ := HCc.out wr hbr.out
                obtain ⟨-, -, -, -, q4, q5, -⟩ := HE.out.at hbr.out
                simp only [] at q4 q5
                clear hc hy
                cases e0 : (x0 == o4) with
                | true =>
                  by_cases hx1 : x1 = []
                  · have hE : x1.isEmpty = true := by simpa using hx1
                    go_wp2_with fail
                    go_quiet (fail)
                    have hbq := Lib.hid (below_next hbr.out (below_drewN wr nq))
                    have HSq := Lib.hid (HS.out.below (below_drewN wr nq))
                    clear hbr HS p0 p1 p2 q4 q5
                    generalize wr.drewN nq = w6 at *
                    have hbr := hbq
                    have HS := HSq
                    clear hbq HSq
                    obtain ⟨p0, p1, p2⟩ := HCc.out w6 hbr.out
                    obtain ⟨-, -, -, -, q4, q5, -⟩ := HE.out.at hbr.out
                    simp only [] at q4 q5
                    have HA2 : Hid (M.allOf ⟨o0, o1, o2, o3, o4, o5, o6, o7, o8, o9, kk⟩ x (l.take (j + 1)) = M.allOf ⟨o0, o1, o2, o3, o4, o5, o6, o7, o8, o9, kk⟩ x (l.take j)) := by
                      unfold Hid
                      rw [HSa.out, show (M.inB ⟨o0, o1, o2, o3, o4, o5, o6, o7, o8, o9, kk⟩ (x0, x1, x2) && (x1 == o5)) = false by unfold M.inB; simp [hE]]
                      simp
                    have HO2 : Hid (M.ownOf ⟨o0, o1, o2, o3, o4, o5, o6, o7, o8, o9, kk⟩ x (l.take (j + 1)) = M.ownOf ⟨o0, o1, o2, o3, o4, o5, o6, o7, o8, o9, kk⟩ x (l.take j)) := by
                      unfold Hid
                      rw [HSo.out, show (M.inB ⟨o0, o1, o2, o3, o4, o5, o6, o7, o8, o9, kk⟩ (x0, x1, x2) && !(blt x1 o5)) = false by unfold M.inB; simp [hE]]
                      simp
                    have HS9 := HS.out
                    clear p0 p1 p2 q4 q5 HS
                    go_wp2_with fail
                    go_roundw
                    case rel => exact ⟨j + 1, by omega, by go_num, by rw [HA2.out, HO2.out]; exact HS9, hbr⟩
                    case measure => simp [intOf]; omega
                  · have hE : x1.isEmpty = false := by simpa using hx1
                    go_wp2_with fail
                    go_quiet (fail)
                    have hbq := Lib.hid (below_next hbr.out (below_drewN wr nq))
                    have HSq := Lib.hid (HS.out.below (below_drewN wr nq))
                    clear hbr HS p0 p1 p2 q4 q5
                    generalize wr.drewN nq = w6 at *
                    have hbr := hbq
                    have HS := HSq
                    clear hbq HSq
                    obtain ⟨p0, p1, p2⟩ := HCc.out w6 hbr.out
                    obtain ⟨-, -, -, -, q4, q5, -⟩ := HE.out.at hbr.out
                    simp only [] at q4 q5
                    cases e5 : (x1 == o5) with
                    | true =>
                      go_wp2_with fail
                      go_quiet (fail)
                      have hbq := Lib.hid (below_next hbr.out (below_drewN w6 nq))
                      have HSq := Lib.hid (HS.out.below (below_drewN w6 nq))
                      clear hbr HS p0 p1 p2 q4 q5
                      generalize w6.drewN nq = w7 at *
                      have hbr := hbq
                      have HS := HSq
                      clear hbq HSq
                      obtain ⟨p0, p1, p2⟩ := HCc.out w7 hbr.out
                      obtain ⟨-, -, -, -, q4, q5, -⟩ := HE.out.at hbr.out
                      simp only [] at q4 q5
                      go_wp2_with fail
                      refine Two.Ph.wp_region_mix3 Two.Ph.eq_grow Two.Ph.any_grow (fun _ _ _ => trivial) [10, 11] [(0, 0), (1, 0), (2, 2), (3, 2), (4, 0), (5, 0), (6, 0), (7, 0), (8, 2), (9, 2), (10, 1), (11, 1), (12, 0)] (by kernel_rfl) (by kernel_rfl) ?_
                      have hbd := Lib.hid (below_next hbr.out (below_drewN w7 1))
                      have HSd := Lib.hid (HS.out.below (below_drewN w7 1))
                      clear hbr HS p0 p1 p2 q4 q5
                      have hgd : w7.drewN 1 = w7.drew := rfl
                      rw [hgd] at hbd HSd
                      clear hgd
                      generalize w7.drew = wd at *
                      obtain ⟨p0, p1, p2⟩ := HCc.out wd hbd.out
                      obtain ⟨-, -, -, -, q4, q5, -⟩ := HE.out.at hbd.out
                      simp only [] at q4 q5
                      repeat ((first | refine Two.Ph.mix3_soft rfl (fun K hK => ?_) | refine Two.Ph.mix3_soon rfl (fun K hK => ?_)); go_simp; (first | (refine hK _ ?_; clear hK K) | (apply Exists.intro; refine ⟨fun z => ?_, hK _ ?_⟩; (first | done); clear hK K)))
                      clear p0 p1 p2 q4 q5
                      refine Two.Ph.mix3_loud rfl (fun K hK => ?_)
                      go_simp
                      refine hK _ _ ?_
                      clear hK K
                      have hba := Lib.hid (hbd.out.alloc hbd.out.size (.cells #[.string (str o5), .int .i64 x, .string (str x2)] 100))
                      have HSa := Lib.hid (HSd.out.below ((Below.refl wd.heap.size wd).alloc (Nat.le_refl _) (.cells #[.string (str o5), .int .i64 x, .string (str x2)] 100)))
                      have HSr : Hid (Sl (wd.alloc (.cells #[.string (str o5), .int .i64 x, .string (str x2)] 100)) 3 1 (.slice (some ⟨wd.heap.size, 0, none⟩) 1 1) (RW.cells [(o5, (x : Int), x2)])) := Sl.lit wd 100 3 1 #[.string (str o5), .int .i64 x, .string (str x2)] (0, 0) rfl (by decide)
                      clear hbd HSd
                      repeat ((first | refine Two.Ph.mix3_soft rfl (fun K hK => ?_) | refine Two.Ph.mix3_soon rfl (fun K hK => ?_)); go_simp; (first | (refine hK _ ?_; clear hK K) | (apply Exists.intro; refine ⟨fun z => ?_, hK _ ?_⟩; (first | done); clear hK K)))
                      refine Two.Ph.mix3_loud rfl (fun K hK => ?_)
                      refine ite_yes rfl ?_
                      rintro ⟨_, rfl⟩
                      refine hOper_append_st _ _ 40 rfl w2.heap.size 100 _ 3 40 Tryd.underlying40 infoRw rfl (by decide) _ _ _ rfl HSa.out.o7 _ 1 (RW.cells [(o5, (x : Int), x2)]) rfl HSr.out (rw_oneCell _) (by unfold maxLen; (try simp only [List.length_append]); omega) (by (try simp only [List.length_append]); omega) hba.out.size ?_
                      intro v7n wn hown hgrow hsame
                      have HS := Lib.hid (HSa.out.app7 (new := [(o5, (x : Int), x2)]) hgrow (by
                        have := hown
                        rw [← RW.cells_append] at this
                        rw [List.length_append (bs := [(o5, (x : Int), x2)])]
                        exact this) hsame)
                      have hbr : Hid (Below w2.heap.size w2 wn) := hba.out.grown hgrow hba.out.size (ownBlock_ge HSa.out.o7)
                      refine ⟨trivial, hK _ _ ?_⟩
                      clear hK K hown hgrow hsame HSa hba HSr
                      repeat ((first | refine Two.Ph.mix3_soft rfl (fun K hK => ?_) | refine Two.Ph.mix3_soon rfl (fun K hK => ?_)); go_simp; (first | (refine hK _ ?_; clear hK K) | (apply Exists.intro; refine ⟨fun z => ?_, hK _ ?_⟩; (first | done); clear hK K)))
                      refine Two.Ph.mix3_done fun w' h => ?_
                      subst h
                      obtain ⟨p0, p1, p2⟩ := HCc.out wn hbr.out
                      obtain ⟨-, -, -, -, q4, q5, -⟩ := HE.out.at hbr.out
                      simp only [] at q4 q5
                      cases h2 : blt x1 o5 with
                      | true =>
                        have h2' : Op.bytesLess x1 o5 = true := h2
                        go_wp2_with fail
                        go_quiet (fail)
                        have hbq := Lib.hid (below_next hbr.out (below_drewN wn nq))
                        have HSq := Lib.hid (HS.out.below (below_drewN wn nq))
                        clear hbr HS p0 p1 p2 q4 q5
                        generalize wn.drewN nq = w8 at *
                        have hbr := hbq
                        have HS := HSq
                        clear hbq HSq
                        obtain ⟨p0, p1, p2⟩ := HCc.out w8 hbr.out
                        obtain ⟨-, -, -, -, q4, q5, -⟩ := HE.out.at hbr.out
                        simp only [] at q4 q5
                        have HA2 : Hid (M.allOf ⟨o0, o1, o2, o3, o4, o5, o6, o7, o8, o9, kk⟩ x (l.take (j + 1)) = M.allOf ⟨o0, o1, o2, o3, o4, o5, o6, o7, o8, o9, kk⟩ x (l.take j) ++ [(o5, (x : Int), x2)]) := by
                          unfold Hid
                          rw [HSa.out, show (M.inB ⟨o0, o1, o2, o3, o4, o5, o6, o7, o8, o9, kk⟩ (x0, x1, x2) && (x1 == o5)) = true by unfold M.inB; simp [e0, hE, e5]]
                          simp
                        have HO2 : Hid (M.ownOf ⟨o0, o1, o2, o3, o4, o5, o6, o7, o8, o9, kk⟩ x (l.take (j + 1)) = M.ownOf ⟨o0, o1, o2, o3, o4, o5, o6, o7, o8, o9, kk⟩ x (l.take j)) := by
                          unfold Hid
                          rw [HSo.out, show (M.inB ⟨o0, o1, o2, o3, o4, o5, o6, o7, o8, o9, kk⟩ (x0, x1, x2) && !(blt x1 o5)) = false by unfold M.inB; simp [e0, hE, h2]]
                          simp
                        have HS9 := HS.out
                        clear p0 p1 p2 q4 q5 HS
                        go_wp2_with fail
                        go_roundw
                        case rel => exact ⟨j + 1, by omega, by go_num, by rw [HA2.out, HO2.out]; rw [← List.append_assoc]; exact HS9, hbr⟩
                        case measure => simp [intOf]; omega
                      | false =>
                        have h2' : Op.bytesLess x1 o5 = false := h2
                        go_wp2_with fail
                        go_quiet (fail)
                        have hbq := Lib.hid (below_next hbr.out (below_drewN wn nq))
                        have HSq := Lib.hid (HS.out.below (below_drewN wn nq))
                        clear hbr HS p0 p1 p2 q4 q5
                        generalize wn.drewN nq = w8 at *
                        have hbr := hbq
                        have HS := HSq
                        clear hbq HSq
                        obtain ⟨p0, p1, p2⟩ := HCc.out w8 hbr.out
                        obtain ⟨-, -, -, -, q4, q5, -⟩ := HE.out.at hbr.out
                        simp only [] at q4 q5
                        go_wp2_with fail
                        refine Two.Ph.wp_region_mix3 Two.Ph.eq_grow Two.Ph.any_grow (fun _ _ _ => trivial) [13, 14] [(0, 0), (1, 0), (2, 0), (3, 0), (4, 0), (5, 2), (6, 2), (7, 0), (8, 0), (9, 0), (10, 0), (11, 2), (12, 2), (13, 1), (14, 1), (15, 0)] (by kernel_rfl) (by kernel_rfl) ?_
                        have hbd := Lib.hid (below_next hbr.out (below_drewN w8 1))
                        have HSd := Lib.hid (HS.out.below (below_drewN w8 1))
                        clear hbr HS p0 p1 p2 q4 q5
                        have hgd : w8.drewN 1 = w8.drew := rfl
                        rw [hgd] at hbd HSd
                        clear hgd
                        generalize w8.drew = wd at *
                        obtain ⟨p0, p1, p2⟩ := HCc.out wd hbd.out
                        obtain ⟨-, -, -, -, q4, q5, -⟩ := HE.out.at hbd.out
                        simp only [] at q4 q5
                        repeat ((first | refine Two.Ph.mix3_soft rfl (fun K hK => ?_) | refine Two.Ph.mix3_soon rfl (fun K hK => ?_)); go_simp; (first | (refine hK _ ?_; clear hK K) | (apply Exists.intro; refine ⟨fun z => ?_, hK _ ?_⟩; (first | done); clear hK K)))
                        clear p0 p1 p2 q4 q5
                        refine Two.Ph.mix3_loud rfl (fun K hK => ?_)
                        go_simp
                        refine hK _ _ ?_
                        clear hK K
                        have hba := Lib.hid (hbd.out.alloc hbd.out.size (.cells #[.string (str x1), .int .i64 x, .string (str x2)] 100))
                        have HSa := Lib.hid (HSd.out.below ((Below.refl wd.heap.size wd).alloc (Nat.le_refl _) (.cells #[.string (str x1), .int .i64 x, .string (str x2)] 100)))
                        have HSr : Hid (Sl (wd.alloc (.cells #[.string (str x1), .int .i64 x, .string (str x2)] 100)) 3 1 (.slice (some ⟨wd.heap.size, 0, none⟩) 1 1) (RW.cells [(x1, (x : Int), x2)])) := Sl.lit wd 100 3 1 #[.string (str x1), .int .i64 x, .string (str x2)] (0, 0) rfl (by decide)
                        clear hbd HSd
                        repeat ((first | refine Two.Ph.mix3_soft rfl (fun K hK => ?_) | refine Two.Ph.mix3_soon rfl (fun K hK => ?_)); go_simp; (first | (refine hK _ ?_; clear hK K) | (apply Exists.intro; refine ⟨fun z => ?_, hK _ ?_⟩; (first | done); clear hK K)))
                        refine Two.Ph.mix3_loud rfl (fun K hK => ?_)
                        refine ite_yes rfl ?_
                        rintro ⟨_, rfl⟩
                        refine hOper_append_st _ _ 40 rfl w2.heap.size 100 _ 3 40 Tryd.underlying40 infoRw rfl (by decide) _ _ _ rfl HSa.out.o10 _ 1 (RW.cells [(x1, (x : Int), x2)]) rfl HSr.out (rw_oneCell _) (by unfold maxLen; (try simp only [List.length_append]); omega) (by (try simp only [List.length_append]); omega) hba.out.size ?_
                        intro v10n wn hown hgrow hsame
                        have HS := Lib.hid (HSa.out.app10 (new := [(x1, (x : Int), x2)]) hgrow (by
                          have := hown
                          rw [← RW.cells_append] at this
                          rw [List.length_append (bs := [(x1, (x : Int), x2)])]
                          exact this) hsame)
                        have hbr : Hid (Below w2.heap.size w2 wn) := hba.out.grown hgrow hba.out.size (ownBlock_ge HSa.out.o10)
                        refine ⟨trivial, hK _ _ ?_⟩
                        clear hK K hown hgrow hsame HSa hba HSr
                        repeat ((first | refine Two.Ph.mix3_soft rfl (fun K hK => ?_) | refine Two.Ph.mix3_soon rfl (fun K hK => ?_)); go_simp; (first | (refine hK _ ?_; clear hK K) | (apply Exists.intro; refine ⟨fun z => ?_, hK _ ?_⟩; (first | done); clear hK K)))
                        refine Two.Ph.mix3_done fun w' h => ?_
                        subst h
                        obtain ⟨p0, p1, p2⟩ := HCc.out wn hbr.out
                        obtain ⟨-, -, -, -, q4, q5, -⟩ := HE.out.at hbr.out
                        simp only [] at q4 q5
                        have HA2 : Hid (M.allOf ⟨o0, o1, o2, o3, o4, o5, o6, o7, o8, o9, kk⟩ x (l.take (j + 1)) = M.allOf ⟨o0, o1, o2, o3, o4, o5, o6, o7, o8, o9, kk⟩ x (l.take j) ++ [(o5, (x : Int), x2)]) := by
                          unfold Hid
                          rw [HSa.out, show (M.inB ⟨o0, o1, o2, o3, o4, o5, o6, o7, o8, o9, kk⟩ (x0, x1, x2) && (x1 == o5)) = true by unfold M.inB; simp [e0, hE, e5]]
                          simp
                        have HO2 : Hid (M.ownOf ⟨o0, o1, o2, o3, o4, o5, o6, o7, o8, o9, kk⟩ x (l.take (j + 1)) = M.ownOf ⟨o0, o1, o2, o3, o4, o5, o6, o7, o8, o9, kk⟩ x (l.take j) ++ [(x1, (x : Int), x2)]) := by
                          unfold Hid
                          rw [HSo.out, show (M.inB ⟨o0, o1, o2, o3, o4, o5, o6, o7, o8, o9, kk⟩ (x0, x1, x2) && !(blt x1 o5)) = true by unfold M.inB; simp [e0, hE, h2]]
                          simp
                        have HS9 := HS.out
                        clear p0 p1 p2 q4 q5 HS
                        go_wp2_with fail
                        go_roundw
                        case rel => exact ⟨j + 1, by omega, by go_num, by rw [HA2.out, HO2.out]; rw [← List.append_assoc]; exact HS9, hbr⟩
                        case measure => simp [intOf]; omega
                    | false =>
                      go_wp2_with fail
                      go_quiet (fail)
                      have hbq := Lib.hid (below_next hbr.out (below_drewN w6 nq))
                      have HSq := Lib.hid (HS.out.below (below_drewN w6 nq))
                      clear hbr HS p0 p1 p2 q4 q5
                      generalize w6.drewN nq = w7 at *
                      have hbr := hbq
                      have HS := HSq
                      clear hbq HSq
                      obtain ⟨p0, p1, p2⟩ := HCc.out w7 hbr.out
                      obtain ⟨-, -, -, -, q4, q5, -⟩ := HE.out.at hbr.out
                      simp only [] at q4 q5
                      cases h2 : blt x1 o5 with
                      | true =>
                        have h2' : Op.bytesLess x1 o5 = true := h2
                        go_wp2_with fail
                        go_quiet (fail)
                        have hbq := Lib.hid (below_next hbr.out (below_drewN w7 nq))
                        have HSq := Lib.hid (HS.out.below (below_drewN w7 nq))
                        clear hbr HS p0 p1 p2 q4 q5
                        generalize w7.drewN nq = w8 at *
                        have hbr := hbq
                        have HS := HSq
                        clear hbq HSq
                        obtain ⟨p0, p1, p2⟩ := HCc.out w8 hbr.out
                        obtain ⟨-, -, -, -, q4, q5, -⟩ := HE.out.at hbr.out
                        simp only [] at q4 q5
                        have HA2 : Hid (M.allOf ⟨o0, o1, o2, o3, o4, o5, o6, o7, o8, o9, kk⟩ x (l.take (j + 1)) = M.allOf ⟨o0, o1, o2, o3, o4, o5, o6, o7, o8, o9, kk⟩ x (l.take j)) := by
                          unfold Hid
                          rw [HSa.out, show (M.inB ⟨o0, o1, o2, o3, o4, o5, o6, o7, o8, o9, kk⟩ (x0, x1, x2) && (x1 == o5)) = false by unfold M.inB; simp [e5]]
                          simp
                        have HO2 : Hid (M.ownOf ⟨o0, o1, o2, o3, o4, o5, o6, o7, o8, o9, kk⟩ x (l.take (j + 1)) = M.ownOf ⟨o0, o1, o2, o3, o4, o5, o6, o7, o8, o9, kk⟩ x (l.take j)) := by
                          unfold Hid
                          rw [HSo.out, show (M.inB ⟨o0, o1, o2, o3, o4, o5, o6, o7, o8, o9, kk⟩ (x0, x1, x2) && !(blt x1 o5)) = false by unfold M.inB; simp [e0, hE, h2]]
                          simp
                        have HS9 := HS.out
                        clear p0 p1 p2 q4 q5 HS
                        go_wp2_with fail
                        go_roundw
                        case rel => exact ⟨j + 1, by omega, by go_num, by rw [HA2.out, HO2.out]; exact HS9, hbr⟩
                        case measure => simp [intOf]; omega
                      | false =>
                        have h2' : Op.bytesLess x1 o5 = false := h2
                        go_wp2_with fail
                        go_quiet (fail)
                        have hbq := Lib.hid (below_next hbr.out (below_drewN w7 nq))
                        have HSq := Lib.hid (HS.out.below (below_drewN w7 nq))
                        clear hbr HS p0 p1 p2 q4 q5
                        generalize w7.drewN nq = w8 at *
                        have hbr := hbq
                        have HS := HSq
                        clear hbq HSq
                        obtain ⟨p0, p1, p2⟩ := HCc.out w8 hbr.out
                        obtain ⟨-, -, -, -, q4, q5, -⟩ := HE.out.at hbr.out
                        simp only [] at q4 q5
                        go_wp2_with fail
                        refine Two.Ph.wp_region_mix3 Two.Ph.eq_grow Two.Ph.any_grow (fun _ _ _ => trivial) [13, 14] [(0, 0), (1, 0), (2, 0), (3, 0), (4, 0), (5, 2), (6, 2), (7, 0), (8, 0), (9, 0), (10, 0), (11, 2), (12, 2), (13, 1), (14, 1), (15, 0)] (by kernel_rfl) (by kernel_rfl) ?_
                        have hbd := Lib.hid (below_next hbr.out (below_drewN w8 1))
                        have HSd := Lib.hid (HS.out.below (below_drewN w8 1))
                        clear hbr HS p0 p1 p2 q4 q5
                        have hgd : w8.drewN 1 = w8.drew := rfl
                        rw [hgd] at hbd HSd
                        clear hgd
                        generalize w8.drew = wd at *
                        obtain ⟨p0, p1, p2⟩ := HCc.out wd hbd.out
                        obtain ⟨-, -, -, -, q4, q5, -⟩ := HE.out.at hbd.out
                        simp only [] at q4 q5
                        repeat ((first | refine Two.Ph.mix3_soft rfl (fun K hK => ?_) | refine Two.Ph.mix3_soon rfl (fun K hK => ?_)); go_simp; (first | (refine hK _ ?_; clear hK K) | (apply Exists.intro; refine ⟨fun z => ?_, hK _ ?_⟩; (first | done); clear hK K)))
                        clear p0 p1 p2 q4 q5
                        refine Two.Ph.mix3_loud rfl (fun K hK => ?_)
                        go_simp
                        refine hK _ _ ?_
                        clear hK K
                        have hba := Lib.hid (hbd.out.alloc hbd.out.size (.cells #[.string (str x1), .int .i64 x, .string (str x2)] 100))
                        have HSa := Lib.hid (HSd.out.below ((Below.refl wd.heap.size wd).alloc (Nat.le_refl _) (.cells #[.string (str x1), .int .i64 x, .string (str x2)] 100)))
                        have HSr : Hid (Sl (wd.alloc (.cells #[.string (str x1), .int .i64 x, .string (str x2)] 100)) 3 1 (.slice (some ⟨wd.heap.size, 0, none⟩) 1 1) (RW.cells [(x1, (x : Int), x2)])) := Sl.lit wd 100 3 1 #[.string (str x1), .int .i64 x, .string (str x2)] (0, 0) rfl (by decide)
                        clear hbd HSd
                        repeat ((first | refine Two.Ph.mix3_soft rfl (fun K hK => ?_) | refine Two.Ph.mix3_soon rfl (fun K hK => ?_)); go_simp; (first | (refine hK _ ?_; clear hK K) | (apply Exists.intro; refine ⟨fun z => ?_, hK _ ?_⟩; (first | done); clear hK K)))
                        refine Two.Ph.mix3_loud rfl (fun K hK => ?_)
                        refine ite_yes rfl ?_
                        rintro ⟨_, rfl⟩
                        refine hOper_append_st _ _ 40 rfl w2.heap.size 100 _ 3 40 Tryd.underlying40 infoRw rfl (by decide) _ _ _ rfl HSa.out.o10 _ 1 (RW.cells [(x1, (x : Int), x2)]) rfl HSr.out (rw_oneCell _) (by unfold maxLen; (try simp only [List.length_append]); omega) (by (try simp only [List.length_append]); omega) hba.out.size ?_
                        intro v10n wn hown hgrow hsame
                        have HS := Lib.hid (HSa.out.app10 (new := [(x1, (x : Int), x2)]) hgrow (by
                          have := hown
                          rw [← RW.cells_append] at this
                          rw [List.length_append (bs := [(x1, (x : Int), x2)])]
                          exact this) hsame)
                        have hbr : Hid (Below w2.heap.size w2 wn) := hba.out.grown hgrow hba.out.size (ownBlock_ge HSa.out.o10)
                        refine ⟨trivial, hK _ _ ?_⟩
                        clear hK K hown hgrow hsame HSa hba HSr
                        repeat ((first | refine Two.Ph.mix3_soft rfl (fun K hK => ?_) | refine Two.Ph.mix3_soon rfl (fun K hK => ?_)); go_simp; (first | (refine hK _ ?_; clear hK K) | (apply Exists.intro; refine ⟨fun z => ?_, hK _ ?_⟩; (first | done); clear hK K)))
                        refine Two.Ph.mix3_done fun w' h => ?_
                        subst h
                        obtain ⟨p0, p1, p2⟩ := HCc.out wn hbr.out
                        obtain ⟨-, -, -, -, q4, q5, -⟩ := HE.out.at hbr.out
                        simp only [] at q4 q5
                        have HA2 : Hid (M.allOf ⟨o0, o1, o2, o3, o4, o5, o6, o7, o8, o9, kk⟩ x (l.take (j + 1)) = M.allOf ⟨o0, o1, o2, o3, o4, o5, o6, o7, o8, o9, kk⟩ x (l.take j)) := by
                          unfold Hid
                          rw [HSa.out, show (M.inB ⟨o0, o1, o2, o3, o4, o5, o6, o7, o8, o9, kk⟩ (x0, x1, x2) && (x1 == o5)) = false by unfold M.inB; simp [e5]]
                          simp
                        have HO2 : Hid (M.ownOf ⟨o0, o1, o2, o3, o4, o5, o6, o7, o8, o9, kk⟩ x (l.take (j + 1)) = M.ownOf ⟨o0, o1, o2, o3, o4, o5, o6, o7, o8, o9, kk⟩ x (l.take j) ++ [(x1, (x : Int), x2)]) := by
                          unfold Hid
                          rw [HSo.out, show (M.inB ⟨o0, o1, o2, o3, o4, o5, o6, o7, o8, o9, kk⟩ (x0, x1, x2) && !(blt x1 o5)) = true by unfold M.inB; simp [e0, hE, h2]]
                          simp
                        have HS9 := HS.out
                        clear p0 p1 p2 q4 q5 HS
                        go_wp2_with fail
                        go_roundw
                        case rel => exact ⟨j + 1, by omega, by go_num, by rw [HA2.out, HO2.out]; exact HS9, hbr⟩
                        case measure => simp [intOf]; omega
                | false =>
                  go_wp2_with fail
                  go_quiet (fail)
                  have hbq := Lib.hid (below_next hbr.out (below_drewN wr nq))
                  have HSq := Lib.hid (HS.out.below (below_drewN wr nq))
                  clear hbr HS p0 p1 p2 q4 q5
                  generalize wr.drewN nq = w6 at *
                  have hbr := hbq
                  have HS := HSq
                  clear hbq HSq
                  obtain ⟨p0, p1, p2⟩ := HCc.out w6 hbr.out
                  obtain ⟨-, -, -, -, q4, q5, -⟩ := HE.out.at hbr.out
                  simp only [] at q4 q5
                  have HA2 : Hid (M.allOf ⟨o0, o1, o2, o3, o4, o5, o6, o7, o8, o9, kk⟩ x (l.take (j + 1)) = M.allOf ⟨o0, o1, o2, o3, o4, o5, o6, o7, o8, o9, kk⟩ x (l.take j)) := by
                    unfold Hid
                    rw [HSa.out, show (M.inB ⟨o0, o1, o2, o3, o4, o5, o6, o7, o8, o9, kk⟩ (x0, x1, x2) && (x1 == o5)) = false by unfold M.inB; simp [e0]]
                    simp
                  have HO2 : Hid (M.ownOf ⟨o0, o1, o2, o3, o4, o5, o6, o7, o8, o9, kk⟩ x (l.take (j + 1)) = M.ownOf ⟨o0, o1, o2, o3, o4, o5, o6, o7, o8, o9, kk⟩ x (l.take j)) := by
                    unfold Hid
                    rw [HSo.out, show (M.inB ⟨o0, o1, o2, o3, o4, o5, o6, o7, o8, o9, kk⟩ (x0, x1, x2) && !(blt x1 o5)) = false by unfold M.inB; simp [e0]]
                    simp
                  have HS9 := HS.out
                  clear p0 p1 p2 q4 q5 HS
                  go_wp2_with fail
                  go_roundw
                  case rel => exact ⟨j + 1, by omega, by go_num, by rw [HA2.out, HO2.out]; exact HS9, hbr⟩
                  case measure => simp [intOf]; omega
              · have hjI : ¬ ((j : Int) < (N : Int)) := by omega
                obtain rfl : j = N := by omega
                rw [List.take_of_length_le (Nat.le_of_eq HLn.out)] at HS
                have HST2 : Hid (M.rfold us m ⟨o0, o1, o2, o3, o4, o5, o6, o7, o8, o9, kk⟩ (x + 1) = ⟨true, rows ++ [M.ownOf ⟨o0, o1, o2, o3, o4, o5, o6, o7, o8, o9, kk⟩ x l], all ++ M.allOf ⟨o0, o1, o2, o3, o4, o5, o6, o7, o8, o9, kk⟩ x l⟩) := HSTt.out
                obtain ⟨vo, hvo⟩ : ∃ vo, vo = u10 := ⟨_, rfl⟩
                rw [← hvo] at HS ⊢
                clear hvo
                obtain ⟨ao, co, rfl, -⟩ := (Sl.of_owns HS.out.o10).shape
                have hba := Lib.hid (hbr.out.alloc hbr.out.size (.cells #[.slice ao (M.ownOf ⟨o0, o1, o2, o3, o4, o5, o6, o7, o8, o9, kk⟩ x l).length co] 40))
                have HSa := Lib.hid (HS.out.below ((Below.refl wr.heap.size wr).alloc (Nat.le_refl _) (.cells #[.slice ao (M.ownOf ⟨o0, o1, o2, o3, o4, o5, o6, o7, o8, o9, kk⟩ x l).length co] 40)))
                have HSr : Hid (Sl (wr.alloc (.cells #[.slice ao (M.ownOf ⟨o0, o1, o2, o3, o4, o5, o6, o7, o8, o9, kk⟩ x l).length co] 40)) 1 1 (.slice (some ⟨wr.heap.size, 0, none⟩) 1 1) [.slice ao (M.ownOf ⟨o0, o1, o2, o3, o4, o5, o6, o7, o8, o9, kk⟩ x l).length co]) := Sl.lit wr 40 1 1 #[.slice ao (M.ownOf ⟨o0, o1, o2, o3, o4, o5, o6, o7, o8, o9, kk⟩ x l).length co] (0, 0) rfl (by decide)
                clear HS hbr HSTt
                go_wp2_with (at_builtin; go_must (refine wpList_append_st rfl _ _ 94 rfl w2.heap.size 40 _ 1 24 Tryd.underlying94 infoVs rfl (by decide) _ _ _ rfl HSa.out.o6 _ 1 [.slice ao (M.ownOf ⟨o0, o1, o2, o3, o4, o5, o6, o7, o8, o9, kk⟩ x l).length co] rfl HSr.out (by intro u hu; rw [List.mem_singleton] at hu; subst hu; rfl) (by unfold maxLen; omega) (by omega) hba.out.size ?_))
                intro v6n wn hown hgrow hsame
                have HS9 := Lib.hid (HSa.out.app6 hgrow hown (by simpa using hsame))
                have hb9 : Hid (Below w2.heap.size w2 wn) := hba.out.grown hgrow hba.out.size (ownBlock_ge HSa.out.o6)
                clear hown hgrow hsame HSa hba HSr
                go_wp2_with fail
                go_roundw
                case rel => exact ⟨x + 1, ul ++ [.slice ao (M.ownOf ⟨o0, o1, o2, o3, o4, o5, o6, o7, o8, o9, kk⟩ x l).length co], by omega, by go_num, by rw [HST2.out], by rw [HST2.out]; exact HS9.out, hb9⟩
                case measure => simp [intOf]; omega
          | false =>
            obtain ⟨f, hf⟩ : ∃ f, M.find l o4 [] = f := ⟨_, rfl⟩
            rw [hf] at HF hfle
            have HSTt : Hid (M.rfold us m ⟨o0, o1, o2, o3, o4, o5, o6, o7, o8, o9, kk⟩ (x + 1) = ⟨decide (0 ≤ f), rows ++ [M.ownOf ⟨o0, o1, o2, o3, o4, o5, o6, o7, o8, o9, kk⟩ x l], all ++ M.allOf ⟨o0, o1, o2, o3, o4, o5, o6, o7, o8, o9, kk⟩ x l⟩) := by unfold Hid; rw [HSTt.out, hf]; rfl
            clear hf
            go_wp2_with fail
            refine HF.out.mono ?_
            rintro e w' ⟨rfl, rfl⟩
            clear HF q4
            obtain ⟨al, cl, rfl, -⟩ := HEs.out.shape
            rw [HLn.out] at HEs ⊢
            go_wp2_with fail
            go_loopw [7, 10, 11] (fun v7 v10 i wr => ∃ j : Nat, j ≤ N ∧ i = .int .i64 j ∧ Hid (RS wr w2.heap.size u6 v7 v10 ul rows (all ++ M.allOf ⟨o0, o1, o2, o3, o4, o5, o6, o7, o8, o9, kk⟩ x (l.take j)) (M.ownOf ⟨o0, o1, o2, o3, o4, o5, o6, o7, o8, o9, kk⟩ x (l.take j))) ∧ Hid (Below w2.heap.size w2 wr)) (fun _ _ i _ => N - (intOf i).toNat)
            case atStart => exact ⟨0, by omega, rfl, (by unfold Hid; simpa [M.allOf, M.ownOf] using HS5.out), hb5⟩
            case round =>
              clear HS5 hb5
              obtain ⟨j, hj, rfl, HS, hbr⟩ := hrel
              have hla := M.allOf_len ⟨o0, o1, o2, o3, o4, o5, o6, o7, o8, o9, kk⟩ x (l.take j)
              have hlo := M.ownOf_len ⟨o0, o1, o2, o3, o4, o5, o6, o7, o8, o9, kk⟩ x (l.take j)
              rw [List.length_take, HLn.out, Nat.min_eq_left hj] at hla hlo
              by_cases hjn : j < N
              · have hjI : (j : Int) < (N : Int) := by omega
                have hj0 : (0 : Int) ≤ (j : Int) := by omega
                obtain ⟨bb, off, rfl, hc⟩ := HEs.out.at (k := j) (by rw [HLn.out]; exact hjn)
                have HSa := M.allOf_step (o := ⟨o0, o1, o2, o3, o4, o5, o6, o7, o8, o9, kk⟩) (x := x) (l := l) (i := j) (by rw [HLn.out]; exact hjn)
                have HSo := M.ownOf_step (o := ⟨o0, o1, o2, o3, o4, o5, o6, o7, o8, o9, kk⟩) (x := x) (l := l) (i := j) (by rw [HLn.out]; exact hjn)
                obtain ⟨y, hy⟩ : ∃ y, (l[j]'(by rw [HLn.out]; exact hjn)) = y := ⟨_, rfl⟩
                rw [hy] at hc HSa HSo
                obtain ⟨x0, x1, x2⟩ := y
                simp only [] at hc HSa HSo
                have HCc := Lib.hid hc
                have HSa := Lib.hid HSa
                have HSo := Lib.hid HSo
                obtain ⟨p0, p1, p2⟩ := HCc.out wr hbr.out
                obtain ⟨-, -, -, -, q4, q5, -⟩ := HE.out.at hbr.out
                simp only [] at q4 q5
                clear hc hy
                cases e0 : (x0 == o4) with
                | true =>
                  by_cases hx1 : x1 = []
                  · have hE : x1.isEmpty = true := by simpa using hx1
                    go_wp2_with fail
                    go_quiet (fail)
                    have hbq := Lib.hid (below_next hbr.out (below_drewN wr nq))
                    have HSq := Lib.hid (HS.out.below (below_drewN wr nq))
                    clear hbr HS p0 p1 p2 q4 q5
                    generalize wr.drewN nq = w6 at *
                    have hbr := hbq
                    have HS := HSq
                    clear hbq HSq
                    obtain ⟨p0, p1, p2⟩ := HCc.out w6 hbr.out
                    obtain ⟨-, -, -, -, q4, q5, -⟩ := HE.out.at hbr.out
                    simp only [] at q4 q5
                    have HA2 : Hid (M.allOf ⟨o0, o1, o2, o3, o4, o5, o6, o7, o8, o9, kk⟩ x (l.take (j + 1)) = M.allOf ⟨o0, o1, o2, o3, o4, o5, o6, o7, o8, o9, kk⟩ x (l.take j)) := by
                      unfold Hid
                      rw [HSa.out, show (M.inB ⟨o0, o1, o2, o3, o4, o5, o6, o7, o8, o9, kk⟩ (x0, x1, x2) && (x1 == o5)) = false by unfold M.inB; simp [hE]]
                      simp
                    have HO2 : Hid (M.ownOf ⟨o0, o1, o2, o3, o4, o5, o6, o7, o8, o9, kk⟩ x (l.take (j + 1)) = M.ownOf ⟨o0, o1, o2, o3, o4, o5, o6, o7, o8, o9, kk⟩ x (l.take j)) := by
                      unfold Hid
                      rw [HSo.out, show (M.inB ⟨o0, o1, o2, o3, o4, o5, o6, o7, o8, o9, kk⟩ (x0, x1, x2) && !(blt x1 o5)) = false by unfold M.inB; simp [hE]]
                      simp
                    have HS9 := HS.out
                    clear p0 p1 p2 q4 q5 HS
                    go_wp2_with fail
                    go_roundw
                    case rel => exact ⟨j + 1, by omega, by go_num, by rw [HA2.out, HO2.out]; exact HS9, hbr⟩
                    case measure => simp [intOf]; omega
                  · have hE : x1.isEmpty = false := by simpa using hx1
                    go_wp2_with fail
                    go_quiet (fail)
                    have hbq := Lib.hid (below_next hbr.out (below_drewN wr nq))
                    have HSq := Lib.hid (HS.out.below (below_drewN wr nq))
                    clear hbr HS p0 p1 p2 q4 q5
                    generalize wr.drewN nq = w6 at *
                    have hbr := hbq
                    have HS := HSq
                    clear hbq HSq
                    obtain ⟨p0, p1, p2⟩ := HCc.out w6 hbr.out
                    obtain ⟨-, -, -, -, q4, q5, -⟩ := HE.out.at hbr.out
                    simp only [] at q4 q5
                    cases e5 : (x1 == o5) with
                    | true =>
                      go_wp2_with fail
                      go_quiet (fail)
                      have hbq := Lib.hid (below_next hbr.out (below_drewN w6 nq))
                      have HSq := Lib.hid (HS.out.below (below_drewN w6 nq))
                      clear hbr HS p0 p1 p2 q4 q5
                      generalize w6.drewN nq = w7 at *
                      have hbr := hbq
                      have HS := HSq
                      clear hbq HSq
                      obtain ⟨p0, p1, p2⟩ := HCc.out w7 hbr.out
                      obtain ⟨-, -, -, -, q4, q5, -⟩ := HE.out.at hbr.out
                      simp only [] at q4 q5
                      go_wp2_with fail
                      refine Two.Ph.wp_region_mix3 Two.Ph.eq_grow Two.Ph.any_grow (fun _ _ _ => trivial) [10, 11] [(0, 0), (1, 0), (2, 2), (3, 2), (4, 0), (5, 0), (6, 0), (7, 0), (8, 2), (9, 2), (10, 1), (11, 1), (12, 0)] (by kernel_rfl) (by kernel_rfl) ?_
                      have hbd := Lib.hid (below_next hbr.out (below_drewN w7 1))
                      have HSd := Lib.hid (HS.out.below (below_drewN w7 1))
                      clear hbr HS p0 p1 p2 q4 q5
                      have hgd : w7.drewN 1 = w7.drew := rfl
                      rw [hgd] at hbd HSd
                      clear hgd
                      generalize w7.drew = wd at *
                      obtain ⟨p0, p1, p2⟩ := HCc.out wd hbd.out
                      obtain ⟨-, -, -, -, q4, q5, -⟩ := HE.out.at hbd.out
                      simp only [] at q4 q5
                      repeat ((first | refine Two.Ph.mix3_soft rfl (fun K hK => ?_) | refine Two.Ph.mix3_soon rfl (fun K hK => ?_)); go_simp; (first | (refine hK _ ?_; clear hK K) | (apply Exists.intro; refine ⟨fun z => ?_, hK _ ?_⟩; (first | done); clear hK K)))
                      clear p0 p1 p2 q4 q5
                      refine Two.Ph.mix3_loud rfl (fun K hK => ?_)
                      go_simp
                      refine hK _ _ ?_
                      clear hK K
                      have hba := Lib.hid (hbd.out.alloc hbd.out.size (.cells #[.string (str o5), .int .i64 x, .string (str x2)] 100))
                      have HSa := Lib.hid (HSd.out.below ((Below.refl wd.heap.size wd).alloc (Nat.le_refl _) (.cells #[.string (str o5), .int .i64 x, .string (str x2)] 100)))
                      have HSr : Hid (Sl (wd.alloc (.cells #[.string (str o5), .int .i64 x, .string (str x2)] 100)) 3 1 (.slice (some ⟨wd.heap.size, 0, none⟩) 1 1) (RW.cells [(o5, (x : Int), x2)])) := Sl.lit wd 100 3 1 #[.string (str o5), .int .i64 x, .string (str x2)] (0, 0) rfl (by decide)
                      clear hbd HSd
                      repeat ((first | refine Two.Ph.mix3_soft rfl (fun K hK => ?_) | refine Two.Ph.mix3_soon rfl (fun K hK => ?_)); go_simp; (first | (refine hK _ ?_; clear hK K) | (apply Exists.intro; refine ⟨fun z => ?_, hK _ ?_⟩; (first | done); clear hK K)))
                      refine Two.Ph.mix3_loud rfl (fun K hK => ?_)
                      refine ite_yes rfl ?_
                      rintro ⟨_, rfl⟩
                      refine hOper_append_st _ _ 40 rfl w2.heap.size 100 _ 3 40 Tryd.underlying40 infoRw rfl (by decide) _ _ _ rfl HSa.out.o7 _ 1 (RW.cells [(o5, (x : Int), x2)]) rfl HSr.out (rw_oneCell _) (by unfold maxLen; (try simp only [List.length_append]); omega) (by (try simp only [List.length_append]); omega) hba.out.size ?_
                      intro v7n wn hown hgrow hsame
                      have HS := Lib.hid (HSa.out.app7 (new := [(o5, (x : Int), x2)]) hgrow (by
                        have := hown
                        rw [← RW.cells_append] at this
                        rw [List.length_append (bs := [(o5, (x : Int), x2)])]
                        exact this) hsame)
                      have hbr : Hid (Below w2.heap.size w2 wn) := hba.out.grown hgrow hba.out.size (ownBlock_ge HSa.out.o7)
                      refine ⟨trivial, hK _ _ ?_⟩
                      clear hK K hown hgrow hsame HSa hba HSr
                      repeat ((first | refine Two.Ph.mix3_soft rfl (fun K hK => ?_) | refine Two.Ph.mix3_soon rfl (fun K hK => ?_)); go_simp; (first | (refine hK _ ?_; clear hK K) | (apply Exists.intro; refine ⟨fun z => ?_, hK _ ?_⟩; (first | done); clear hK K)))
                      refine Two.Ph.mix3_done fun w' h => ?_
                      subst h
                      obtain ⟨p0, p1, p2⟩ := HCc.out wn hbr.out
                      obtain ⟨-, -, -, -, q4, q5, -⟩ := HE.out.at hbr.out
                      simp only [] at q4 q5
                      cases h2 : blt x1 o5 with
                      | true =>
                        have h2' : Op.bytesLess x1 o5 = true := h2
                        go_wp2_with fail
                        go_quiet (fail)
                        have hbq := Lib.hid (below_next hbr.out (below_drewN wn nq))
                        have HSq := Lib.hid (HS.out.below (below_drewN wn nq))
                        clear hbr HS p0 p1 p2 q4 q5
                        generalize wn.drewN nq = w8 at *
                        have hbr := hbq
                        have HS := HSq
                        clear hbq HSq
                        obtain ⟨p0, p1, p2⟩ := HCc.out w8 hbr.out
                        obtain ⟨-, -, -, -, q4, q5, -⟩ := HE.out.at hbr.out
                        simp only [] at q4 q5
                        have HA2 : Hid (M.allOf ⟨o0, o1, o2, o3, o4, o5, o6, o7, o8, o9, kk⟩ x (l.take (j + 1)) = M.allOf ⟨o0, o1, o2, o3, o4, o5, o6, o7, o8, o9, kk⟩ x (l.take j) ++ [(o5, (x : Int), x2)]) := by
                          unfold Hid
                          rw [HSa.out, show (M.inB ⟨o0, o1, o2, o3, o4, o5, o6, o7, o8, o9, kk⟩ (x0, x1, x2) && (x1 == o5)) = true by unfold M.inB; simp [e0, hE, e5]]
                          simp
                        have HO2 : Hid (M.ownOf ⟨o0, o1, o2, o3, o4, o5, o6, o7, o8, o9, kk⟩ x (l.take (j + 1)) = M.ownOf ⟨o0, o1, o2, o3, o4, o5, o6, o7, o8, o9, kk⟩ x (l.take j)) := by
                          unfold Hid
                          rw [HSo.out, show (M.inB ⟨o0, o1, o2, o3, o4, o5, o6, o7, o8, o9, kk⟩ (x0, x1, x2) && !(blt x1 o5)) = false by unfold M.inB; simp [e0, hE, h2]]
                          simp
                        have HS9 := HS.out
                        clear p0 p1 p2 q4 q5 HS
                        go_wp2_with fail
                        go_roundw
                        case rel => exact ⟨j + 1, by omega, by go_num, by rw [HA2.out, HO2.out]; rw [← List.append_assoc]; exact HS9, hbr⟩
                        case measure => simp [intOf]; omega
                      | false =>
                        have h2' : Op.bytesLess x1 o5 = false := h2
                        go_wp2_with fail
                        go_quiet (fail)
                        have hbq := Lib.hid (below_next hbr.out (below_drewN wn nq))
                        have HSq := Lib.hid (HS.out.below (below_drewN wn nq))
                        clear hbr HS p0 p1 p2 q4 q5
                        generalize wn.drewN nq = w8 at *
                        have hbr := hbq
                        have HS := HSq
                        clear hbq HSq
                        obtain ⟨p0, p1, p2⟩ := HCc.out w8 hbr.out
                        obtain ⟨-, -, -, -, q4, q5, -⟩ := HE.out.at hbr.out
                        simp only [] at q4 q5
                        go_wp2_with fail
                        refine Two.Ph.wp_region_mix3 Two.Ph.eq_grow Two.Ph.any_grow (fun _ _ _ => trivial) [13, 14] [(0, 0), (1, 0), (2, 0), (3, 0), (4, 0), (5, 2), (6, 2), (7, 0), (8, 0), (9, 0), (10, 0), (11, 2), (12, 2), (13, 1), (14, 1), (15, 0)] (by kernel_rfl) (by kernel_rfl) ?_
                        have hbd := Lib.hid (below_next hbr.out (below_drewN w8 1))
                        have HSd := Lib.hid (HS.out.below (below_drewN w8 1))
                        clear hbr HS p0 p1 p2 q4 q5
                        have hgd : w8.drewN 1 = w8.drew := rfl
                        rw [hgd] at hbd HSd
                        clear hgd
                        generalize w8.drew = wd at *
                        obtain ⟨p0, p1, p2⟩ := HCc.out wd hbd.out
                        obtain ⟨-, -, -, -, q4, q5, -⟩ := HE.out.at hbd.out
                        simp only [] at q4 q5
                        repeat ((first | refine Two.Ph.mix3_soft rfl (fun K hK => ?_) | refine Two.Ph.mix3_soon rfl (fun K hK => ?_)); go_simp; (first | (refine hK _ ?_; clear hK K) | (apply Exists.intro; refine ⟨fun z => ?_, hK _ ?_⟩; (first | done); clear hK K)))
                        clear p0 p1 p2 q4 q5
                        refine Two.Ph.mix3_loud rfl (fun K hK => ?_)
                        go_simp
                        refine hK _ _ ?_
                        clear hK K
                        have hba := Lib.hid (hbd.out.alloc hbd.out.size (.cells #[.string (str x1), .int .i64 x, .string (str x2)] 100))
                        have HSa := Lib.hid (HSd.out.below ((Below.refl wd.heap.size wd).alloc (Nat.le_refl _) (.cells #[.string (str x1), .int .i64 x, .string (str x2)] 100)))
                        have HSr : Hid (Sl (wd.alloc (.cells #[.string (str x1), .int .i64 x, .string (str x2)] 100)) 3 1 (.slice (some ⟨wd.heap.size, 0, none⟩) 1 1) (RW.cells [(x1, (x : Int), x2)])) := Sl.lit wd 100 3 1 #[.string (str x1), .int .i64 x, .string (str x2)] (0, 0) rfl (by decide)
                        clear hbd HSd
                        repeat ((first | refine Two.Ph.mix3_soft rfl (fun K hK => ?_) | refine Two.Ph.mix3_soon rfl (fun K hK => ?_)); go_simp; (first | (refine hK _ ?_; clear hK K) | (apply Exists.intro; refine ⟨fun z => ?_, hK _ ?_⟩; (first | done); clear hK K)))
                        refine Two.Ph.mix3_loud rfl (fun K hK => ?_)
                        refine ite_yes rfl ?_
                        rintro ⟨_, rfl⟩
                        refine hOper_append_st _ _ 40 rfl w2.heap.size 100 _ 3 40 Tryd.underlying40 infoRw rfl (by decide) _ _ _ rfl HSa.out.o10 _ 1 (RW.cells [(x1, (x : Int), x2)]) rfl HSr.out (rw_oneCell _) (by unfold maxLen; (try simp only [List.length_append]); omega) (by (try simp only [List.length_append]); omega) hba.out.size ?_
                        intro v10n wn hown hgrow hsame
                        have HS := Lib.hid (HSa.out.app10 (new := [(x1, (x : Int), x2)]) hgrow (by
                          have := hown
                          rw [← RW.cells_append] at this
                          rw [List.length_append (bs := [(x1, (x : Int), x2)])]
                          exact this) hsame)
                        have hbr : Hid (Below w2.heap.size w2 wn) := hba.out.grown hgrow hba.out.size (ownBlock_ge HSa.out.o10)
                        refine ⟨trivial, hK _ _ ?_⟩
                        clear hK K hown hgrow hsame HSa hba HSr
                        repeat ((first | refine Two.Ph.mix3_soft rfl (fun K hK => ?_) | refine Two.Ph.mix3_soon rfl (fun K hK => ?_)); go_simp; (first | (refine hK _ ?_; clear hK K) | (apply Exists.intro; refine ⟨fun z => ?_, hK _ ?_⟩; (first | done); clear hK K)))
                        refine Two.Ph.mix3_done fun w' h => ?_
                        subst h
                        obtain ⟨p0, p1, p2⟩ := HCc.out wn hbr.out
                        obtain ⟨-, -, -, -, q4, q5, -⟩ := HE.out.at hbr.out
                        simp only [] at q4 q5
                        have HA2 : Hid (M.allOf ⟨o0, o1, o2, o3, o4, o5, o6, o7, o8, o9, kk⟩ x (l.take (j + 1)) = M.allOf ⟨o0, o1, o2, o3, o4, o5, o6, o7, o8, o9, kk⟩ x (l.take j) ++ [(o5, (x : Int), x2)]) := by
                          unfold Hid
                          rw [HSa.out, show (M.inB ⟨o0, o1, o2, o3, o4, o5, o6, o7, o8, o9, kk⟩ (x0, x1, x2) && (x1 == o5)) = true by unfold M.inB; simp [e0, hE, e5]]
                          simp
                        have HO2 : Hid (M.ownOf ⟨o0, o1, o2, o3, o4, o5, o6, o7, o8, o9, kk⟩ x (l.take (j + 1)) = M.ownOf ⟨o0, o1, o2, o3, o4, o5, o6, o7, o8, o9, kk⟩ x (l.take j) ++ [(x1, (x : Int), x2)]) := by
                          unfold Hid
                          rw [HSo.out, show (M.inB ⟨o0, o1, o2, o3, o4, o5, o6, o7, o8, o9, kk⟩ (x0, x1, x2) && !(blt x1 o5)) = true by unfold M.inB; simp [e0, hE, h2]]
                          simp
                        have HS9 := HS.out
                        clear p0 p1 p2 q4 q5 HS
                        go_wp2_with fail
                        go_roundw
                        case rel => exact ⟨j + 1, by omega, by go_num, by rw [HA2.out, HO2.out]; rw [← List.append_assoc]; exact HS9, hbr⟩
                        case measure => simp [intOf]; omega
                    | false =>
                      go_wp2_with fail
                      go_quiet (fail)
                      have hbq := Lib.hid (below_next hbr.out (below_drewN w6 nq))
                      have HSq := Lib.hid (HS.out.below (below_drewN w6 nq))
                      clear hbr HS p0 p1 p2 q4 q5
                      generalize w6.drewN nq = w7 at *
                      have hbr := hbq
                      have HS := HSq
                      clear hbq HSq
                      obtain ⟨p0, p1, p2⟩ := HCc.out w7 hbr.out
                      obtain ⟨-, -, -, -, q4, q5, -⟩ := HE.out.at hbr.out
                      simp only [] at q4 q5
                      cases h2 : blt x1 o5 with
                      | true =>
                        have h2' : Op.bytesLess x1 o5 = true := h2
                        go_wp2_with fail
                        go_quiet (fail)
                        have hbq := Lib.hid (below_next hbr.out (below_drewN w7 nq))
                        have HSq := Lib.hid (HS.out.below (below_drewN w7 nq))
                        clear hbr HS p0 p1 p2 q4 q5
                        generalize w7.drewN nq = w8 at *
                        have hbr := hbq
                        have HS := HSq
                        clear hbq HSq
                        obtain ⟨p0, p1, p2⟩ := HCc.out w8 hbr.out
                        obtain ⟨-, -, -, -, q4, q5, -⟩ := HE.out.at hbr.out
                        simp only [] at q4 q5
                        have HA2 : Hid (M.allOf ⟨o0, o1, o2, o3, o4, o5, o6, o7, o8, o9, kk⟩ x (l.take (j + 1)) = M.allOf ⟨o0, o1, o2, o3, o4, o5, o6, o7, o8, o9, kk⟩ x (l.take j)) := by
                          unfold Hid
                          rw [HSa.out, show (M.inB ⟨o0, o1, o2, o3, o4, o5, o6, o7, o8, o9, kk⟩ (x0, x1, x2) && (x1 == o5)) = false by unfold M.inB; simp [e5]]
                          simp
                        have HO2 : Hid (M.ownOf ⟨o0, o1, o2, o3, o4, o5, o6, o7, o8, o9, kk⟩ x (l.take (j + 1)) = M.ownOf ⟨o0, o1, o2, o3, o4, o5, o6, o7, o8, o9, kk⟩ x (l.take j)) := by
                          unfold Hid
                          rw [HSo.out, show (M.inB ⟨o0, o1, o2, o3, o4, o5, o6, o7, o8, o9, kk⟩ (x0, x1, x2) && !(blt x1 o5)) = false by unfold M.inB; simp [e0, hE, h2]]
                          simp
                        have HS9 := HS.out
                        clear p0 p1 p2 q4 q5 HS
                        go_wp2_with fail
                        go_roundw
                        case rel => exact ⟨j + 1, by omega, by go_num, by rw [HA2.out, HO2.out]; exact HS9, hbr⟩
                        case measure => simp [intOf]; omega
                      | false =>
                        have h2' : Op.bytesLess x1 o5 = false := h2
                        go_wp2_with fail
                        go_quiet (fail)
                        have hbq := Lib.hid (below_next hbr.out (below_drewN w7 nq))
                        have HSq := Lib.hid (HS.out.below (below_drewN w7 nq))
                        clear hbr HS p0 p1 p2 q4 q5
                        generalize w7.drewN nq = w8 at *
                        have hbr := hbq
                        have HS := HSq
                        clear hbq HSq
                        obtain ⟨p0, p1, p2⟩ := HCc.out w8 hbr.out
                        obtain ⟨-, -, -, -, q4, q5, -⟩ := HE.out.at hbr.out
                        simp only [] at q4 q5
                        go_wp2_with fail
                        refine Two.Ph.wp_region_mix3 Two.Ph.eq_grow Two.Ph.any_grow (fun _ _ _ => trivial) [13, 14] [(0, 0), (1, 0), (2, 0), (3, 0), (4, 0), (5, 2), (6, 2), (7, 0), (8, 0), (9, 0), (10, 0), (11, 2), (12, 2), (13, 1), (14, 1), (15, 0)] (by kernel_rfl) (by kernel_rfl) ?_
                        have hbd := Lib.hid (below_next hbr.out (below_drewN w8 1))
                        have HSd := Lib.hid (HS.out.below (below_drewN w8 1))
                        clear hbr HS p0 p1 p2 q4 q5
                        have hgd : w8.drewN 1 = w8.drew := rfl
                        rw [hgd] at hbd HSd
                        clear hgd
                        generalize w8.drew = wd at *
                        obtain ⟨p0, p1, p2⟩ := HCc.out wd hbd.out
                        obtain ⟨-, -, -, -, q4, q5, -⟩ := HE.out.at hbd.out
                        simp only [] at q4 q5
                        repeat ((first | refine Two.Ph.mix3_soft rfl (fun K hK => ?_) | refine Two.Ph.mix3_soon rfl (fun K hK => ?_)); go_simp; (first | (refine hK _ ?_; clear hK K) | (apply Exists.intro; refine ⟨fun z => ?_, hK _ ?_⟩; (first | done); clear hK K)))
                        clear p0 p1 p2 q4 q5
                        refine Two.Ph.mix3_loud rfl (fun K hK => ?_)
                        go_simp
                        refine hK _ _ ?_
                        clear hK K
                        have hba := Lib.hid (hbd.out.alloc hbd.out.size (.cells #[.string (str x1), .int .i64 x, .string (str x2)] 100))
                        have HSa := Lib.hid (HSd.out.below ((Below.refl wd.heap.size wd).alloc (Nat.le_refl _) (.cells #[.string (str x1), .int .i64 x, .string (str x2)] 100)))
                        have HSr : Hid (Sl (wd.alloc (.cells #[.string (str x1), .int .i64 x, .string (str x2)] 100)) 3 1 (.slice (some ⟨wd.heap.size, 0, none⟩) 1 1) (RW.cells [(x1, (x : Int), x2)])) := Sl.lit wd 100 3 1 #[.string (str x1), .int .i64 x, .string (str x2)] (0, 0) rfl (by decide)
                        clear hbd HSd
                        repeat ((first | refine Two.Ph.mix3_soft rfl (fun K hK => ?_) | refine Two.Ph.mix3_soon rfl (fun K hK => ?_)); go_simp; (first | (refine hK _ ?_; clear hK K) | (apply Exists.intro; refine ⟨fun z => ?_, hK _ ?_⟩; (first | done); clear hK K)))
                        refine Two.Ph.mix3_loud rfl (fun K hK => ?_)
                        refine ite_yes rfl ?_
                        rintro ⟨_, rfl⟩
                        refine hOper_append_st _ _ 40 rfl w2.heap.size 100 _ 3 40 Tryd.underlying40 infoRw rfl (by decide) _ _ _ rfl HSa.out.o10 _ 1 (RW.cells [(x1, (x : Int), x2)]) rfl HSr.out (rw_oneCell _) (by unfold maxLen; (try simp only [List.length_append]); omega) (by (try simp only [List.length_append]); omega) hba.out.size ?_
                        intro v10n wn hown hgrow hsame
                        have HS := Lib.hid (HSa.out.app10 (new := [(x1, (x : Int), x2)]) hgrow (by
                          have := hown
                          rw [← RW.cells_append] at this
                          rw [List.length_append (bs := [(x1, (x : Int), x2)])]
                          exact this) hsame)
                        have hbr : Hid (Below w2.heap.size w2 wn) := hba.out.grown hgrow hba.out.size (ownBlock_ge HSa.out.o10)
                        refine ⟨trivial, hK _ _ ?_⟩
                        clear hK K hown hgrow hsame HSa hba HSr
                        repeat ((first | refine Two.Ph.mix3_soft rfl (fun K hK => ?_) | refine Two.Ph.mix3_soon rfl (fun K hK => ?_)); go_simp; (first | (refine hK _ ?_; clear hK K) | (apply Exists.intro; refine ⟨fun z => ?_, hK _ ?_⟩; (first | done); clear hK K)))
                        refine Two.Ph.mix3_done fun w' h => ?_
                        subst h
                        obtain ⟨p0, p1, p2⟩ := HCc.out wn hbr.out
                        obtain ⟨-, -, -, -, q4, q5, -⟩ := HE.out.at hbr.out
                        simp only [] at q4 q5
                        have HA2 : Hid (M.allOf ⟨o0, o1, o2, o3, o4, o5, o6, o7, o8, o9, kk⟩ x (l.take (j + 1)) = M.allOf ⟨o0, o1, o2, o3, o4, o5, o6, o7, o8, o9, kk⟩ x (l.take j)) := by
                          unfold Hid
                          rw [HSa.out, show (M.inB ⟨o0, o1, o2, o3, o4, o5, o6, o7, o8, o9, kk⟩ (x0, x1, x2) && (x1 == o5)) = false by unfold M.inB; simp [e5]]
                          simp
                        have HO2 : Hid (M.ownOf ⟨o0, o1, o2, o3, o4, o5, o6, o7, o8, o9, kk⟩ x (l.take (j + 1)) = M.ownOf ⟨o0, o1, o2, o3, o4, o5, o6, o7, o8, o9, kk⟩ x (l.take j) ++ [(x1, (x : Int), x2)]) := by
                          unfold Hid
                          rw [HSo.out, show (M.inB ⟨o0, o1, o2, o3, o4, o5, o6, o7, o8, o9, kk⟩ (x0, x1, x2) && !(blt x1 o5)) = true by unfold M.inB; simp [e0, hE, h2]]
                          simp
                        have HS9 := HS.out
                        clear p0 p1 p2 q4 q5 HS
                        go_wp2_with fail
                        go_roundw
                        case rel => exact ⟨j + 1, by omega, by go_num, by rw [HA2.out, HO2.out]; exact HS9, hbr⟩
                        case measure => simp [intOf]; omega
                | false =>
                  go_wp2_with fail
                  go_quiet (fail)
                  have hbq := Lib.hid (below_next hbr.out (below_drewN wr nq))
                  have HSq := Lib.hid (HS.out.below (below_drewN wr nq))
                  clear hbr HS p0 p1 p2 q4 q5
                  generalize wr.drewN nq = w6 at *
                  have hbr := hbq
                  have HS := HSq
                  clear hbq HSq
                  obtain ⟨p0, p1, p2⟩ := HCc.out w6 hbr.out
                  obtain ⟨-, -, -, -, q4, q5, -⟩ := HE.out.at hbr.out
                  simp only [] at q4 q5
                  have HA2 : Hid (M.allOf ⟨o0, o1, o2, o3, o4, o5, o6, o7, o8, o9, kk⟩ x (l.take (j + 1)) = M.allOf ⟨o0, o1, o2, o3, o4, o5, o6, o7, o8, o9, kk⟩ x (l.take j)) := by
                    unfold Hid
                    rw [HSa.out, show (M.inB ⟨o0, o1, o2, o3, o4, o5, o6, o7, o8, o9, kk⟩ (x0, x1, x2) && (x1 == o5)) = false by unfold M.inB; simp [e0]]
                    simp
                  have HO2 : Hid (M.ownOf ⟨o0, o1, o2, o3, o4, o5, o6, o7, o8, o9, kk⟩ x (l.take (j + 1)) = M.ownOf ⟨o0, o1, o2, o3, o4, o5, o6, o7, o8, o9, kk⟩ x (l.take j)) := by
                    unfold Hid
                    rw [HSo.out, show (M.inB ⟨o0, o1, o2, o3, o4, o5, o6, o7, o8, o9, kk⟩ (x0, x1, x2) && !(blt x1 o5)) = false by unfold M.inB; simp [e0]]
                    simp
                  have HS9 := HS.out
                  clear p0 p1 p2 q4 q5 HS
                  go_wp2_with fail
                  go_roundw
                  case rel => exact ⟨j + 1, by omega, by go_num, by rw [HA2.out, HO2.out]; exact HS9, hbr⟩
                  case measure => simp [intOf]; omega
              · have hjI : ¬ ((j : Int) < (N : Int)) := by omega
                obtain rfl : j = N := by omega
                rw [List.take_of_length_le (Nat.le_of_eq HLn.out)] at HS
                have HST2 : Hid (M.rfold us m ⟨o0, o1, o2, o3, o4, o5, o6, o7, o8, o9, kk⟩ (x + 1) = ⟨decide (0 ≤ f), rows ++ [M.ownOf ⟨o0, o1, o2, o3, o4, o5, o6, o7, o8, o9, kk⟩ x l], all ++ M.allOf ⟨o0, o1, o2, o3, o4, o5, o6, o7, o8, o9, kk⟩ x l⟩) := HSTt.out
                obtain ⟨vo, hvo⟩ : ∃ vo, vo = u10 := ⟨_, rfl⟩
                rw [← hvo] at HS ⊢
                clear hvo
                obtain ⟨ao, co, rfl, -⟩ := (Sl.of_owns HS.out.o10).shape
                have hba := Lib.hid (hbr.out.alloc hbr.out.size (.cells #[.slice ao (M.ownOf ⟨o0, o1, o2, o3, o4, o5, o6, o7, o8, o9, kk⟩ x l).length co] 40))
                have HSa := Lib.hid (HS.out.below ((Below.refl wr.heap.size wr).alloc (Nat.le_refl _) (.cells #[.slice ao (M.ownOf ⟨o0, o1, o2, o3, o4, o5, o6, o7, o8, o9, kk⟩ x l).length co] 40)))
                have HSr : Hid (Sl (wr.alloc (.cells #[.slice ao (M.ownOf ⟨o0, o1, o2, o3, o4, o5, o6, o7, o8, o9, kk⟩ x l).length co] 40)) 1 1 (.slice (some ⟨wr.heap.size, 0, none⟩) 1 1) [.slice ao (M.ownOf ⟨o0, o1, o2, o3, o4, o5, o6, o7, o8, o9, kk⟩ x l).length co]) := Sl.lit wr 40 1 1 #[.slice ao (M.ownOf ⟨o0, o1, o2, o3, o4, o5, o6, o7, o8, o9, kk⟩ x l).length co] (0, 0) rfl (by decide)
                clear HS hbr HSTt
                go_wp2_with (at_builtin; go_must (refine wpList_append_st rfl _ _ 94 rfl w2.heap.size 40 _ 1 24 Tryd.underlying94 infoVs rfl (by decide) _ _ _ rfl HSa.out.o6 _ 1 [.slice ao (M.ownOf ⟨o0, o1, o2, o3, o4, o5, o6, o7, o8, o9, kk⟩ x l).length co] rfl HSr.out (by intro u hu; rw [List.mem_singleton] at hu; subst hu; rfl) (by unfold maxLen; omega) (by omega) hba.out.size ?_))
                intro v6n wn hown hgrow hsame
                have HS9 := Lib.hid (HSa.out.app6 hgrow hown (by simpa using hsame))
                have hb9 : Hid (Below w2.heap.size w2 wn) := hba.out.grown hgrow hba.out.size (ownBlock_ge HSa.out.o6)
                clear hown hgrow hsame HSa hba HSr
                go_wp2_with fail
                go_roundw
                case rel => exact ⟨x + 1, ul ++ [.slice ao (M.ownOf ⟨o0, o1, o2, o3, o4, o5, o6, o7, o8, o9, kk⟩ x l).length co], by omega, by go_num, by rw [HST2.out], by rw [HST2.out]; exact HS9.out, hb9⟩
                case measure => simp [intOf]; omega
      · have hxI : ¬ ((x : Int) < (n : Int)) := by omega
        obtain rfl : x = n := by omega
        have hfl := HFL.out x (Nat.le_refl _)
        have hun := fun C hC => M.union_eq (rows := (M.rfold us m ⟨o0, o1, o2, o3, o4, o5, o6, o7, o8, o9, kk⟩ x).rows) (C := C) hC
        obtain ⟨st0, hst0⟩ : ∃ s, M.rfold us m ⟨o0, o1, o2, o3, o4, o5, o6, o7, o8, o9, kk⟩ x = s := ⟨_, rfl⟩
        rw [hst0] at HS HRD hfl hun ⊢
        clear hst0
        obtain ⟨sm, rows, all⟩ := st0
        simp only [] at HS HRD hfl hun ⊢
        have HUN := Lib.hid hun
        have c4 := ((HE.out.m.b.below hbr.out).cells).c4
        clear hun
        cases sm with
        | false =>
          have HRES : Hid (M.read us m ⟨o0, o1, o2, o3, o4, o5, o6, o7, o8, o9, kk⟩ = M.bad 32) := by unfold Hid; rw [HRD.out]; rfl
          clear HS
          go_wp2_with fail
          clear c4
          have st := Lib.hid (not_any 32 wr)
          refine st.out.mono ?_
          rintro e wn ⟨rfl, hx⟩
          have hbn := Lib.hid (below_next hbr.out hx)
          clear st hx hbr
          have hrb := HRb.out wn hbn.out
          obtain ⟨z0, z1, z2, z3, z4, z5, z6, z7⟩ := hrb.cells
          have y0 := hrb.go 0
          have y1 := hrb.go 1
          have y2 := hrb.go 2
          have y3 := hrb.go 3
          have y4 := hrb.go 4
          have y5 := hrb.go 5
          have y6 := hrb.go 6
          have y7 := hrb.go 7
          have hbw2 := Lib.hid (below_next HE.out.b hbn.out)
          clear hrb
          go_wp2_with fail
          refine bodyPost_ret (res_results rfl _ _ R 32 0 (.slice none 0 0) (.slice none 0 0) rfl ((HRb.out wn hbn.out).put 32 0 (.slice none 0 0) (.slice none 0 0))) rfl ?_
          have HF1 : Ending.returned (resv 32 0 (.slice none 0 0) (.slice none 0 0)) = Ending.returned (resv (M.read us m ⟨o0, o1, o2, o3, o4, o5, o6, o7, o8, o9, kk⟩).e (M.read us m ⟨o0, o1, o2, o3, o4, o5, o6, o7, o8, o9, kk⟩).n (.slice none 0 0) (.slice none 0 0)) := by rw [HRES.out] <;> rfl
          have HF2 : Rz w (rbw wn R 32 0 (.slice none 0 0) (.slice none 0 0)) (.slice none 0 0) (M.read us m ⟨o0, o1, o2, o3, o4, o5, o6, o7, o8, o9, kk⟩).rows := by rw [HRES.out]; exact Rz.nil _ _
          exact ⟨(.slice none 0 0), HF1, HF2, below_rbw hbw2.out (Nat.le_of_lt HR2.out) 32 0 (.slice none 0 0) (.slice none 0 0)⟩
        | true =>
          have HRD : Hid (M.read us m ⟨o0, o1, o2, o3, o4, o5, o6, o7, o8, o9, kk⟩ = if o0 = 10 then ⟨0, 0, M.union rows (M.most o9), []⟩ else if all.length = 0 then M.bad 33 else ⟨0, 0, all, []⟩) := by unfold Hid; rw [HRD.out]; rfl
          obtain ⟨p0, -, -, -, -, -, -, -, -, p9, -⟩ := HE.out.at hbr.out
          simp only [] at p0 p9
          by_cases h10 : o0 = 10
          · have d1 : (o0 == 10) = true := by simp [h10]
            have d2 : decide (o0 = 10) = true := by simp [h10]
            have HRES : Hid (M.read us m ⟨o0, o1, o2, o3, o4, o5, o6, o7, o8, o9, kk⟩ = ⟨0, 0, M.union rows (M.most o9), []⟩) := by unfold Hid; rw [HRD.out, if_pos h10]
            have st1 := Lib.hid (mmost_any o9 wr)
            have st2 := Lib.hid (munion_any u6 rows (M.most o9) wr HS.out.vs (by omega))
            clear HRD HS h10
            go_wp2_with fail
            refine st1.out.mono ?_
            rintro e w' ⟨rfl, rfl⟩
            clear st1 c4
            go_wp2_with fail
            refine st2.out.mono ?_
            rintro e wn ⟨vr, C, rfl, hC, hrz, hx⟩
            have hbn := Lib.hid (below_next hbr.out hx)
            obtain ⟨ar, cr, rfl, -⟩ := (hrz (fun _ => False) (fun k h => h.elim)).here.shape
            obtain ⟨q, hq⟩ : ∃ q, (C.take (S.upto (M.most o9) C.length)).length = q := ⟨_, rfl⟩
            rw [hq] at hrz ⊢
            clear hq
            have HRZ : Hid (Rz wr wn (.slice ar q cr) (M.union rows (M.most o9))) := by unfold Hid; rw [HUN.out C hC]; exact hrz
            have HRl2 : Hid (R < wr.heap.size) := Nat.lt_of_lt_of_le HRl.out hbr.out.size
            have HSz : Hid (w.heap.size ≤ wr.heap.size) := (below_next HE.out.b hbr.out).size
            clear st2 hx hbr hC hrz p0 p9
            have hrb := HRb.out wn hbn.out
            obtain ⟨z0, z1, z2, z3, z4, z5, z6, z7⟩ := hrb.cells
            have y0 := hrb.go 0
            have y1 := hrb.go 1
            have y2 := hrb.go 2
            have y3 := hrb.go 3
            have y4 := hrb.go 4
            have y5 := hrb.go 5
            have y6 := hrb.go 6
            have y7 := hrb.go 7
            have hbw2 := Lib.hid (below_next HE.out.b hbn.out)
            clear hrb
            go_wp2_with fail
            refine bodyPost_ret (res_results rfl _ _ R 0 0 (.slice ar q cr) (.slice none 0 0) rfl ((HRb.out wn hbn.out).put 0 0 (.slice ar q cr) (.slice none 0 0))) rfl ?_
            have HF1 : Ending.returned (resv 0 0 (.slice ar q cr) (.slice none 0 0)) = Ending.returned (resv (M.read us m ⟨o0, o1, o2, o3, o4, o5, o6, o7, o8, o9, kk⟩).e (M.read us m ⟨o0, o1, o2, o3, o4, o5, o6, o7, o8, o9, kk⟩).n (.slice ar q cr) (.slice none 0 0)) := by rw [HRES.out] <;> rfl
            have HF2 : Rz w (rbw wn R 0 0 (.slice ar q cr) (.slice none 0 0)) (.slice ar q cr) (M.read us m ⟨o0, o1, o2, o3, o4, o5, o6, o7, o8, o9, kk⟩).rows := by rw [HRES.out]; exact Rz.res HRZ.out HRl2.out HSz.out 0 0 (.slice ar q cr) (.slice none 0 0)
            exact ⟨(.slice ar q cr), HF1, HF2, below_rbw hbw2.out (Nat.le_of_lt HR2.out) 0 0 (.slice ar q cr) (.slice none 0 0)⟩
          · have d1 : (o0 == 10) = false := by simp [h10]
            have d2 : decide (o0 = 10) = false := by simp [h10]
            have HRD : Hid (M.read us m ⟨o0, o1, o2, o3, o4, o5, o6, o7, o8, o9, kk⟩ = if all.length = 0 then M.bad 33 else ⟨0, 0, all, []⟩) := by unfold Hid; rw [HRD.out, if_neg h10]
            clear h10
            obtain ⟨al, cl, hal, -⟩ := (Sl.of_owns HS.out.o7).shape
            obtain ⟨va, hva⟩ : ∃ va, va = u7 := ⟨_, rfl⟩
            rw [← hva] at HS hal ⊢
            clear hva
            subst hal
            have HRZ : Hid (∀ e n vr vc, Rz w (rbw wr R e n vr vc) (.slice al all.length cl) all) := fun e n vr vc => Rz.own HS.out.o7 HRl.out HE.out.b.size e n vr vc
            obtain ⟨N, hN⟩ : ∃ N, all.length = N := ⟨_, rfl⟩
            rw [hN] at HRD HRZ hfl ⊢
            clear HS hN
            by_cases h0 : N = 0
            · have d3 : ((N : Int) == 0) = true := by simp [h0]
              have HRES : Hid (M.read us m ⟨o0, o1, o2, o3, o4, o5, o6, o7, o8, o9, kk⟩ = M.bad 33) := by unfold Hid; rw [HRD.out, if_pos h0]
              subst h0
              clear HRD HRZ
              go_wp2_with fail
              clear c4 p0 p9
              have st := Lib.hid (not_any 33 wr)
              refine st.out.mono ?_
              rintro e wn ⟨rfl, hx⟩
              have hbn := Lib.hid (below_next hbr.out hx)
              clear st hx hbr
              have hrb := HRb.out wn hbn.out
              obtain ⟨z0, z1, z2, z3, z4, z5, z6, z7⟩ := hrb.cells
              have y0 := hrb.go 0
              have y1 := hrb.go 1
              have y2 := hrb.go 2
              have y3 := hrb.go 3
              have y4 := hrb.go 4
              have y5 := hrb.go 5
              have y6 := hrb.go 6
              have y7 := hrb.go 7
              have hbw2 := Lib.hid (below_next HE.out.b hbn.out)
              clear hrb
              go_wp2_with fail
              refine bodyPost_ret (res_results rfl _ _ R 33 0 (.slice none 0 0) (.slice none 0 0) rfl ((HRb.out wn hbn.out).put 33 0 (.slice none 0 0) (.slice none 0 0))) rfl ?_
              have HF1 : Ending.returned (resv 33 0 (.slice none 0 0) (.slice none 0 0)) = Ending.returned (resv (M.read us m ⟨o0, o1, o2, o3, o4, o5, o6, o7, o8, o9, kk⟩).e (M.read us m ⟨o0, o1, o2, o3, o4, o5, o6, o7, o8, o9, kk⟩).n (.slice none 0 0) (.slice none 0 0)) := by rw [HRES.out] <;> rfl
              have HF2 : Rz w (rbw wn R 33 0 (.slice none 0 0) (.slice none 0 0)) (.slice none 0 0) (M.read us m ⟨o0, o1, o2, o3, o4, o5, o6, o7, o8, o9, kk⟩).rows := by rw [HRES.out]; exact Rz.nil _ _
              exact ⟨(.slice none 0 0), HF1, HF2, below_rbw hbw2.out (Nat.le_of_lt HR2.out) 33 0 (.slice none 0 0) (.slice none 0 0)⟩
            · have d3 : ((N : Int) == 0) = false := by rw [beq_eq_false_iff_ne]; omega
              have HRES : Hid (M.read us m ⟨o0, o1, o2, o3, o4, o5, o6, o7, o8, o9, kk⟩ = ⟨0, 0, all, []⟩) := by unfold Hid; rw [HRD.out, if_neg h0]
              have hpos : 0 < N := by omega
              clear HRD h0
              have hrb := HRb.out wr hbr.out
              obtain ⟨z0, z1, z2, z3, z4, z5, z6, z7⟩ := hrb.cells
              have y0 := hrb.go 0
              have y1 := hrb.go 1
              have y2 := hrb.go 2
              have y3 := hrb.go 3
              have y4 := hrb.go 4
              have y5 := hrb.go 5
              have y6 := hrb.go 6
              have y7 := hrb.go 7
              have hbw2 := Lib.hid (below_next HE.out.b hbr.out)
              clear hrb
              go_wp2_with fail
              refine bodyPost_ret (res_results rfl _ _ R 0 0 (.slice al N cl) (.slice none 0 0) rfl ((HRb.out wr hbr.out).put 0 0 (.slice al N cl) (.slice none 0 0))) rfl ?_
              have HF1 : Ending.returned (resv 0 0 (.slice al N cl) (.slice none 0 0)) = Ending.returned (resv (M.read us m ⟨o0, o1, o2, o3, o4, o5, o6, o7, o8, o9, kk⟩).e (M.read us m ⟨o0, o1, o2, o3, o4, o5, o6, o7, o8, o9, kk⟩).n (.slice al N cl) (.slice none 0 0)) := by rw [HRES.out] <;> rfl
              have HF2 : Rz w (rbw wr R 0 0 (.slice al N cl) (.slice none 0 0)) (.slice al N cl) (M.read us m ⟨o0, o1, o2, o3, o4, o5, o6, o7, o8, o9, kk⟩).rows := by rw [HRES.out]; exact HRZ.out 0 0 (.slice al N cl) (.slice none 0 0)
              exact ⟨(.slice al N cl), HF1, HF2, below_rbw hbw2.out (Nat.le_of_lt HR2.out) 0 0 (.slice al N cl) (.slice none 0 0)⟩
  · have d3 : (o3 != 0) = true := by simp [h3]
    have st := Lib.hid (has_any w2 B n vn (.slice au n cu) vq vg X m ⟨o0, o1, o2, o3, o4, o5, o6, o7, o8, o9, kk⟩ u HE.out.m)
    obtain ⟨hs, hhs⟩ : ∃ b, M.has m ⟨o0, o1, o2, o3, o4, o5, o6, o7, o8, o9, kk⟩ = b := ⟨_, rfl⟩
    rw [hhs, d3] at HRD
    rw [hhs] at st
    clear hhs p3 h3
    obtain ⟨p0, p1, p2, p3, p4, p5, p6, p7, p8, p9, p10⟩ := HE.out.at hb0.out
    simp only [] at p0 p1 p2 p3 p4 p5 p6 p7 p8 p9
    go_wp2_with fail
    clear hw2 hQo hRQ
    refine st.out.mono ?_
    rintro e w1 ⟨rfl, hx1⟩
    have hb1 := Lib.hid (below_next hb0.out hx1)
    clear st hx1 p0 p1 p2 p3 p4 p5 p6 p7 p8 p9 p10 hb0
    cases hs with
    | false =>
      have HRES : Hid (M.read us m ⟨o0, o1, o2, o3, o4, o5, o6, o7, o8, o9, kk⟩ = M.bad 39) := by unfold Hid; rw [HRD.out]; rfl
      clear HRD
      have st := Lib.hid (not_any 39 w1)
      go_wp2_with fail
      refine st.out.mono ?_
      rintro e wn ⟨rfl, hx⟩
      have hbn := Lib.hid (below_next hb1.out hx)
      clear st hx hb1
      have hrb := HRb.out wn hbn.out
      obtain ⟨z0, z1, z2, z3, z4, z5, z6, z7⟩ := hrb.cells
      have y0 := hrb.go 0
      have y1 := hrb.go 1
      have y2 := hrb.go 2
      have y3 := hrb.go 3
      have y4 := hrb.go 4
      have y5 := hrb.go 5
      have y6 := hrb.go 6
      have y7 := hrb.go 7
      have hbw2 := Lib.hid (below_next HE.out.b hbn.out)
      clear hrb
      go_wp2_with fail
      refine bodyPost_ret (res_results rfl _ _ R 39 0 (.slice none 0 0) (.slice none 0 0) rfl ((HRb.out wn hbn.out).put 39 0 (.slice none 0 0) (.slice none 0 0))) rfl ?_
      have HF1 : Ending.returned (resv 39 0 (.slice none 0 0) (.slice none 0 0)) = Ending.returned (resv (M.read us m ⟨o0, o1, o2, o3, o4, o5, o6, o7, o8, o9, kk⟩).e (M.read us m ⟨o0, o1, o2, o3, o4, o5, o6, o7, o8, o9, kk⟩).n (.slice none 0 0) (.slice none 0 0)) := by rw [HRES.out] <;> rfl
      have HF2 : Rz w (rbw wn R 39 0 (.slice none 0 0) (.slice none 0 0)) (.slice none 0 0) (M.read us m ⟨o0, o1, o2, o3, o4, o5, o6, o7, o8, o9, kk⟩).rows := by rw [HRES.out]; exact Rz.nil _ _
      exact ⟨(.slice none 0 0), HF1, HF2, below_rbw hbw2.out (Nat.le_of_lt HR2.out) 39 0 (.slice none 0 0) (.slice none 0 0)⟩
    | true =>
      have HRD : Hid (M.read us m ⟨o0, o1, o2, o3, o4, o5, o6, o7, o8, o9, kk⟩ = if !(M.rfold us m ⟨o0, o1, o2, o3, o4, o5, o6, o7, o8, o9, kk⟩ n).some then M.bad 32 else if o0 = 10 then ⟨0, 0, M.union (M.rfold us m ⟨o0, o1, o2, o3, o4, o5, o6, o7, o8, o9, kk⟩ n).rows (M.most o9), []⟩ else if (M.rfold us m ⟨o0, o1, o2, o3, o4, o5, o6, o7, o8, o9, kk⟩ n).all.length = 0 then M.bad 33 else ⟨0, 0, (M.rfold us m ⟨o0, o1, o2, o3, o4, o5, o6, o7, o8, o9, kk⟩ n).all, []⟩) := by unfold Hid; rw [HRD.out]; rfl
      go_wp2_with fail
      go_loopw [5, 6, 7, 8] (fun sm v6 v7 i wr => ∃ (x : Nat) (ul : List Value), x ≤ n ∧ i = .int .i64 x ∧ sm = .bool (M.rfold us m ⟨o0, o1, o2, o3, o4, o5, o6, o7, o8, o9, kk⟩ x).some ∧ Hid (RS wr w2.heap.size v6 v7 (.slice none 0 0) ul (M.rfold us m ⟨o0, o1, o2, o3, o4, o5, o6, o7, o8, o9, kk⟩ x).rows (M.rfold us m ⟨o0, o1, o2, o3, o4, o5, o6, o7, o8, o9, kk⟩ x).all []) ∧ Hid (Below w2.heap.size w2 wr)) (fun _ _ _ i _ => n - (intOf i).toNat)
      case atStart => exact ⟨0, [], by omega, rfl, rfl, RS.nil _ _, hb1⟩
      case round =>
        clear hb1
        obtain ⟨x, ul, hx, rfl, rfl, HS, hbr⟩ := hrel
        by_cases hxn : x < n
        · have hxI : (x : Int) < (n : Int) := by omega
          have hx0 : (0 : Int) ≤ (x : Int) := by omega
          have HST := M.rfold_step us m ⟨o0, o1, o2, o3, o4, o5, o6, o7, o8, o9, kk⟩ x
          have hfl := HFL.out x (by omega)
          obtain ⟨st0, hst0⟩ : ∃ s, M.rfold us m ⟨o0, o1, o2, o3, o4, o5, o6, o7, o8, o9, kk⟩ x = s := ⟨_, rfl⟩
          rw [hst0] at HS HST hfl ⊢
          clear hst0
          obtain ⟨sm, rows, all⟩ := st0
          simp only [] at HS hfl ⊢
          have HST := Lib.hid HST
          have c4 := ((HE.out.m.b.below hbr.out).cells).c4
          go_wp2_with fail
          clear c4
          refine wp_region_mix ext_grow [(0, false), (1, false), (2, false), (3, false), (4, false), (5, false), (6, false), (7, false), (8, false), (9, false)] (by kernel_rfl) (by kernel_rfl) ?_
          have hb3 := Lib.hid (below_next hbr.out (below_drewN wr 1))
          have HS3 := Lib.hid (HS.out.below (below_drewN wr 1))
          clear hbr HS
          have hgd : wr.drewN 1 = wr.drew := rfl
          rw [hgd] at hb3 HS3
          clear hgd
          generalize wr.drew = w3 at *
          have c1 : ∀ z : Later w3, z.1.cell? ⟨B, 1, none⟩ = some (.slice au n cu) := fun z => (HE.out.m.b.below (below_next hb3.out z.2)).cells.c1
          have p1 : ∀ z : Later w3, z.1.cell? ⟨Qo, 1, none⟩ = some (.int .i64 o1) := fun z => (HE.out.at (below_next hb3.out z.2)).2.1
          have HLy : Hid (∀ z : Later w3, Calls Tryd.prog 31 #[.slice au n cu, .int .i64 x, .int .i64 o1] z.1 fun e w' => e = .returned (.bool (L.leq us (x : Int) o1)) ∧ Ext z.1 w') := fun z => (refLeq_any (.slice au n cu) us (x : Int) o1 z.1 (HUs.out z.1 (below_next hb3.out z.2)) HU64.out).mono fun e w' ⟨h1, h2⟩ => ⟨h1, ext_of_eq h2⟩
          obtain ⟨lq, hlq⟩ : ∃ b, L.leq us (x : Int) o1 = b := ⟨_, rfl⟩
          rw [hlq] at HLy
          have HLQ := Lib.hid hlq
          clear hlq
          repeat (refine mix_soft rfl (fun K hK => ?_); go_simp; (first | (refine hK _ ?_; clear hK K) | (apply Exists.intro; refine ⟨fun z => ?_, hK _ ?_⟩; (first | (go_at_call 31; with_reducible exact HLy.out z)); clear hK K)))
          refine mix_done fun w4 hx4 => ?_
          have hb4 := Lib.hid (below_next hb3.out hx4)
          have HS4 := Lib.hid (HS3.out.below hx4)
          clear hx4 hb3 HS3 c1 p1 HLy
          cases lq with
          | false =>
            have HSTf : Hid (M.rfold us m ⟨o0, o1, o2, o3, o4, o5, o6, o7, o8, o9, kk⟩ (x + 1) = ⟨sm, rows, all⟩) := by unfold Hid; rw [HST.out]; unfold M.rstep; rw [HLQ.out]; rfl
            go_wp2_with fail
            go_roundw
            case rel => exact ⟨x + 1, ul, by omega, by go_num, by rw [HSTf.out], by rw [HSTf.out]; exact HS4.out, hb4⟩
            case measure => simp [intOf]; omega
          | true =>
            have st := Lib.hid (sees_any w2 w4 B n vn (.slice au n cu) vq vg X m ⟨o0, o1, o2, o3, o4, o5, o6, o7, o8, o9, kk⟩ u x HE.out.m hb4.out HP.out hxn (by omega))
            obtain ⟨p0, p1, p2, p3, p4, p5, p6, p7, p8, p9, p10⟩ := HE.out.at hb4.out
            simp only [] at p0 p1 p2 p3 p4 p5 p6 p7 p8 p9
            go_wp2_with fail
            refine st.out.mono ?_
            rintro e w5 ⟨vl, rfl, hes, hx5⟩
            have hb5 := Lib.hid (below_next hb4.out hx5)
            have HS5 := Lib.hid (HS4.out.below hx5)
            have HEs := Lib.hid hes
            have hkl := HK.out x hxn
            clear hx5 st p0 p1 p2 p3 p4 p5 p6 p7 p8 p9 p10 hb4 HS4 hes
            obtain ⟨l, hl⟩ : ∃ l, M.sees m ⟨o0, o1, o2, o3, o4, o5, o6, o7, o8, o9, kk⟩ x = l := ⟨_, rfl⟩
            rw [hl] at HEs hkl
            obtain ⟨N, hN⟩ : ∃ N, l.length = N := ⟨_, rfl⟩
            rw [hN] at hkl
            have HLn := Lib.hid hN
            clear hN
            have HSTt : Hid (M.rfold us m ⟨o0, o1, o2, o3, o4, o5, o6, o7, o8, o9, kk⟩ (x + 1) = ⟨sm || decide (0 ≤ M.find l o4 []), rows ++ [M.ownOf ⟨o0, o1, o2, o3, o4, o5, o6, o7, o8, o9, kk⟩ x l], all ++ M.allOf ⟨o0, o1, o2, o3, o4, o5, o6, o7, o8, o9, kk⟩ x l⟩) := by unfold Hid; rw [HST.out]; unfold M.rstep; rw [HLQ.out, if_pos rfl, hl]
            obtain ⟨-, -, -, -, q4, -⟩ := HE.out.at hb5.out
            simp only [] at q4
            have hfle := M.find_le l o4 []
            have HF := Lib.hid (mfind_any vl l o4 [] w5 (Sl.below HEs.out hb5.out))
            clear hl HST
            cases sm with
            | true =>
              have HSTt : Hid (M.rfold us m ⟨o0, o1, o2, o3, o4, o5, o6, o7, o8, o9, kk⟩ (x + 1) = ⟨true, rows ++ [M.ownOf ⟨o0, o1, o2, o3, o4, o5, o6, o7, o8, o9, kk⟩ x l], all ++ M.allOf ⟨o0, o1, o2, o3, o4, o5, o6, o7, o8, o9, kk⟩ x l⟩) := HSTt.out
              clear HF
              obtain ⟨al, cl, rfl, -⟩ := HEs.out.shape
              rw [HLn.out] at HEs ⊢
              clear q4
              go_wp2_with fail
              go_loopw [7, 10, 11] (fun v7 v10 i wr => ∃ j : Nat, j ≤ N ∧ i = .int .i64 j ∧ Hid (RS wr w2.heap.size u6 v7 v10 ul rows (all ++ M.allOf ⟨o0, o1, o2, o3, o4, o5, o6, o7, o8, o9, kk⟩ x (l.take j)) (M.ownOf ⟨o0, o1, o2, o3, o4, o5, o6, o7, o8, o9, kk⟩ x (l.take j))) ∧ Hid (Below w2.heap.size w2 wr)) (fun _ _ i _ => N - (intOf i).toNat)
              case atStart => exact ⟨0, by omega, rfl, (by unfold Hid; simpa [M.allOf, M.ownOf] using HS5.out), hb5⟩
              case round =>
                clear HS5 hb5
                obtain ⟨j, hj, rfl, HS, hbr⟩ := hrel
                have hla := M.allOf_len ⟨o0, o1, o2, o3, o4, o5, o6, o7, o8, o9, kk⟩ x (l.take j)
                have hlo := M.ownOf_len ⟨o0, o1, o2, o3, o4, o5, o6, o7, o8, o9, kk⟩ x (l.take j)
                rw [List.length_take, HLn.out, Nat.min_eq_left hj] at hla hlo
                by_cases hjn : j < N
                · have hjI : (j : Int) < (N : Int) := by omega
                  have hj0 : (0 : Int) ≤ (j : Int) := by omega
                  obtain ⟨bb, off, rfl, hc⟩ := HEs.out.at (k := j) (by rw [HLn.out]; exact hjn)
                  have HSa := M.allOf_step (o := ⟨o0, o1, o2, o3, o4, o5, o6, o7, o8, o9, kk⟩) (x := x) (l := l) (i := j) (by rw [HLn.out]; exact hjn)
                  have HSo := M.ownOf_step (o := ⟨o0, o1, o2, o3, o4, o5, o6, o7, o8, o9, kk⟩) (x := x) (l := l) (i := j) (by rw [HLn.out]; exact hjn)
                  obtain ⟨y, hy⟩ : ∃ y, (l[j]'(by rw [HLn.out]; exact hjn)) = y := ⟨_, rfl⟩
                  rw [hy] at hc HSa HSo
                  obtain ⟨x0, x1, x2⟩ := y
                  simp only [] at hc HSa HSo
                  have HCc := Lib.hid hc
                  have HSa := Lib.hid HSa
                  have HSo := Lib.hid HSo
                  obtain ⟨p0, p1, p2⟩ := HCc.out wr hbr.out
                  obtain ⟨-, -, -, -, q4, q5, -⟩ := HE.out.at hbr.out
                  simp only [] at q4 q5
                  clear hc hy
                  cases e0 : (x0 == o4) with
                  | true =>
                    by_cases hx1 : x1 = []
                    · have hE : x1.isEmpty = true := by simpa using hx1
                      go_wp2_with fail
                      go_quiet (fail)
                      have hbq := Lib.hid (below_next hbr.out (below_drewN wr nq))
                      have HSq := Lib.hid (HS.out.below (below_drewN wr nq))
                      clear hbr HS p0 p1 p2 q4 q5
                      generalize wr.drewN nq = w6 at *
                      have hbr := hbq
                      have HS := HSq
                      clear hbq HSq
                      obtain ⟨p0, p1, p2⟩ := HCc.out w6 hbr.out
                      obtain ⟨-, -, -, -, q4, q5, -⟩ := HE.out.at hbr.out
                      simp only [] at q4 q5
                      have HA2 : Hid (M.allOf ⟨o0, o1, o2, o3, o4, o5, o6, o7, o8, o9, kk⟩ x (l.take (j + 1)) = M.allOf ⟨o0, o1, o2, o3, o4, o5, o6, o7, o8, o9, kk⟩ x (l.take j)) := by
                        unfold Hid
                        rw [HSa.out, show (M.inB ⟨o0, o1, o2, o3, o4, o5, o6, o7, o8, o9, kk⟩ (x0, x1, x2) && (x1 == o5)) = false by unfold M.inB; simp [hE]]
                        simp
                      have HO2 : Hid (M.ownOf ⟨o0, o1, o2, o3, o4, o5, o6, o7, o8, o9, kk⟩ x (l.take (j + 1)) = M.ownOf ⟨o0, o1, o2, o3, o4, o5, o6, o7, o8, o9, kk⟩ x (l.take j)) := by
                        unfold Hid
                        rw [HSo.out, show (M.inB ⟨o0, o1, o2, o3, o4, o5, o6, o7, o8, o9, kk⟩ (x0, x1, x2) && !(blt x1 o5)) = false by unfold M.inB; simp [hE]]
                        simp
                      have HS9 := HS.out
                      clear p0 p1 p2 q4 q5 HS
                      go_wp2_with fail
                      go_roundw
                      case rel => exact ⟨j + 1, by omega, by go_num, by rw [HA2.out, HO2.out]; exact HS9, hbr⟩
                      case measure => simp [intOf]; omega
                    · have hE : x1.isEmpty = false := by simpa using hx1
                      go_wp2_with fail
                      go_quiet (fail)
                      have hbq := Lib.hid (below_next hbr.out (below_drewN wr nq))
                      have HSq := Lib.hid (HS.out.below (below_drewN wr nq))
                      clear hbr HS p0 p1 p2 q4 q5
                      generalize wr.drewN nq = w6 at *
                      have hbr := hbq
                      have HS := HSq
                      clear hbq HSq
                      obtain ⟨p0, p1, p2⟩ := HCc.out w6 hbr.out
                      obtain ⟨-, -, -, -, q4, q5, -⟩ := HE.out.at hbr.out
                      simp only [] at q4 q5
                      cases e5 : (x1 == o5) with
                      | true =>
                        go_wp2_with fail
                        go_quiet (fail)
                        have hbq := Lib.hid (below_next hbr.out (below_drewN w6 nq))
                        have HSq := Lib.hid (HS.out.below (below_drewN w6 nq))
                        clear hbr HS p0 p1 p2 q4 q5
                        generalize w6.drewN nq = w7 at *
                        have hbr := hbq
                        have HS := HSq
                        clear hbq HSq
                        obtain ⟨p0, p1, p2⟩ := HCc.out w7 hbr.out
                        obtain ⟨-, -, -, -, q4, q5, -⟩ := HE.out.at hbr.out
                        simp only [] at q4 q5
                        go_wp2_with fail
                        refine Two.Ph.wp_region_mix3 Two.Ph.eq_grow Two.Ph.any_grow (fun _ _ _ => trivial) [10, 11] [(0, 0), (1, 0), (2, 2), (3, 2), (4, 0), (5, 0), (6, 0), (7, 0), (8, 2), (9, 2), (10, 1), (11, 1), (12, 0)] (by kernel_rfl) (by kernel_rfl) ?_
                        have hbd := Lib.hid (below_next hbr.out (below_drewN w7 1))
                        have HSd := Lib.hid (HS.out.below (below_drewN w7 1))
                        clear hbr HS p0 p1 p2 q4 q5
                        have hgd : w7.drewN 1 = w7.drew := rfl
                        rw [hgd] at hbd HSd
                        clear hgd
                        generalize w7.drew = wd at *
                        obtain ⟨p0, p1, p2⟩ := HCc.out wd hbd.out
                        obtain ⟨-, -, -, -, q4, q5, -⟩ := HE.out.at hbd.out
                        simp only [] at q4 q5
                        repeat ((first | refine Two.Ph.mix3_soft rfl (fun K hK => ?_) | refine Two.Ph.mix3_soon rfl (fun K hK => ?_)); go_simp; (first | (refine hK _ ?_; clear hK K) | (apply Exists.intro; refine ⟨fun z => ?_, hK _ ?_⟩; (first | done); clear hK K)))
                        clear p0 p1 p2 q4 q5
                        refine Two.Ph.mix3_loud rfl (fun K hK => ?_)
                        go_simp
                        refine hK _ _ ?_
                        clear hK K
                        have hba := Lib.hid (hbd.out.alloc hbd.out.size (.cells #[.string (str o5), .int .i64 x, .string (str x2)] 100))
                        have HSa := Lib.hid (HSd.out.below ((Below.refl wd.heap.size wd).alloc (Nat.le_refl _) (.cells #[.string (str o5), .int .i64 x, .string (str x2)] 100)))
                        have HSr : Hid (Sl (wd.alloc (.cells #[.string (str o5), .int .i64 x, .string (str x2)] 100)) 3 1 (.slice (some ⟨wd.heap.size, 0, none⟩) 1 1) (RW.cells [(o5, (x : Int), x2)])) := Sl.lit wd 100 3 1 #[.string (str o5), .int .i64 x, .string (str x2)] (0, 0) rfl (by decide)
                        clear hbd HSd
                        repeat ((first | refine Two.Ph.mix3_soft rfl (fun K hK => ?_) | refine Two.Ph.mix3_soon rfl (fun K hK => ?_)); go_simp; (first | (refine hK _ ?_; clear hK K) | (apply Exists.intro; refine ⟨fun z => ?_, hK _ ?_⟩; (first | done); clear hK K)))
                        refine Two.Ph.mix3_loud rfl (fun K hK => ?_)
                        refine ite_yes rfl ?_
                        rintro ⟨_, rfl⟩
                        refine hOper_append_st _ _ 40 rfl w2.heap.size 100 _ 3 40 Tryd.underlying40 infoRw rfl (by decide) _ _ _ rfl HSa.out.o7 _ 1 (RW.cells [(o5, (x : Int), x2)]) rfl HSr.out (rw_oneCell _) (by unfold maxLen; (try simp only [List.length_append]); omega) (by (try simp only [List.length_append]); omega) hba.out.size ?_
                        intro v7n wn hown hgrow hsame
                        have HS := Lib.hid (HSa.out.app7 (new := [(o5, (x : Int), x2)]) hgrow (by
                          have := hown
                          rw [← RW.cells_append] at this
                          rw [List.length_append (bs := [(o5, (x : Int), x2)])]
                          exact this) hsame)
                        have hbr : Hid (Below w2.heap.size w2 wn) := hba.out.grown hgrow hba.out.size (ownBlock_ge HSa.out.o7)
                        refine ⟨trivial, hK _ _ ?_⟩
                        clear hK K hown hgrow hsame HSa hba HSr
                        repeat ((first | refine Two.Ph.mix3_soft rfl (fun K hK => ?_) | refine Two.Ph.mix3_soon rfl (fun K hK => ?_)); go_simp; (first | (refine hK _ ?_; clear hK K) | (apply Exists.intro; refine ⟨fun z => ?_, hK _ ?_⟩; (first | done); clear hK K)))
                        refine Two.Ph.mix3_done fun w' h => ?_
                        subst h
                        obtain ⟨p0, p1, p2⟩ := HCc.out wn hbr.out
                        obtain ⟨-, -, -, -, q4, q5, -⟩ := HE.out.at hbr.out
                        simp only [] at q4 q5
                        cases h2 : blt x1 o5 with
                        | true =>
                          have h2' : Op.bytesLess x1 o5 = true := h2
                          go_wp2_with fail
                          go_quiet (fail)
                          have hbq := Lib.hid (below_next hbr.out (below_drewN wn nq))
                          have HSq := Lib.hid (HS.out.below (below_drewN wn nq))
                          clear hbr HS p0 p1 p2 q4 q5
                          generalize wn.drewN nq = w8 at *
                          have hbr := hbq
                          have HS := HSq
                          clear hbq HSq
                          obtain ⟨p0, p1, p2⟩ := HCc.out w8 hbr.out
                          obtain ⟨-, -, -, -, q4, q5, -⟩ := HE.out.at hbr.out
                          simp only [] at q4 q5
                          have HA2 : Hid (M.allOf ⟨o0, o1, o2, o3, o4, o5, o6, o7, o8, o9, kk⟩ x (l.take (j + 1)) = M.allOf ⟨o0, o1, o2, o3, o4, o5, o6, o7, o8, o9, kk⟩ x (l.take j) ++ [(o5, (x : Int), x2)]) := by
                            unfold Hid
                            rw [HSa.out, show (M.inB ⟨o0, o1, o2, o3, o4, o5, o6, o7, o8, o9, kk⟩ (x0, x1, x2) && (x1 == o5)) = true by unfold M.inB; simp [e0, hE, e5]]
                            simp
                          have HO2 : Hid (M.ownOf ⟨o0, o1, o2, o3, o4, o5, o6, o7, o8, o9, kk⟩ x (l.take (j + 1)) = M.ownOf ⟨o0, o1, o2, o3, o4, o5, o6, o7, o8, o9, kk⟩ x (l.take j)) := by
                            unfold Hid
                            rw [HSo.out, show (M.inB ⟨o0, o1, o2, o3, o4, o5, o6, o7, o8, o9, kk⟩ (x0, x1, x2) && !(blt x1 o5)) = false by unfold M.inB; simp [e0, hE, h2]]
                            simp
                          have HS9 := HS.out
                          clear p0 p1 p2 q4 q5 HS
                          go_wp2_with fail
                          go_roundw
                          case rel => exact ⟨j + 1, by omega, by go_num, by rw [HA2.out, HO2.out]; rw [← List.append_assoc]; exact HS9, hbr⟩
                          case measure => simp [intOf]; omega
                        | false =>
                          have h2' : Op.bytesLess x1 o5 = false := h2
                          go_wp2_with fail
                          go_quiet (fail)
                          have hbq := Lib.hid (below_next hbr.out (below_drewN wn nq))
                          have HSq := Lib.hid (HS.out.below (below_drewN wn nq))
                          clear hbr HS p0 p1 p2 q4 q5
                          generalize wn.drewN nq = w8 at *
                          have hbr := hbq
                          have HS := HSq
                          clear hbq HSq
                          obtain ⟨p0, p1, p2⟩ := HCc.out w8 hbr.out
                          obtain ⟨-, -, -, -, q4, q5, -⟩ := HE.out.at hbr.out
                          simp only [] at q4 q5
                          go_wp2_with fail
                          refine Two.Ph.wp_region_mix3 Two.Ph.eq_grow Two.Ph.any_grow (fun _ _ _ => trivial) [13, 14] [(0, 0), (1, 0), (2, 0), (3, 0), (4, 0), (5, 2), (6, 2), (7, 0), (8, 0), (9, 0), (10, 0), (11, 2), (12, 2), (13, 1), (14, 1), (15, 0)] (by kernel_rfl) (by kernel_rfl) ?_
                          have hbd := Lib.hid (below_next hbr.out (below_drewN w8 1))
                          have HSd := Lib.hid (HS.out.below (below_drewN w8 1))
                          clear hbr HS p0 p1 p2 q4 q5
                          have hgd : w8.drewN 1 = w8.drew := rfl
                          rw [hgd] at hbd HSd
                          clear hgd
                          generalize w8.drew = wd at *
                          obtain ⟨p0, p1, p2⟩ := HCc.out wd hbd.out
                          obtain ⟨-, -, -, -, q4, q5, -⟩ := HE.out.at hbd.out
                          simp only [] at q4 q5
                          repeat ((first | refine Two.Ph.mix3_soft rfl (fun K hK => ?_) | refine Two.Ph.mix3_soon rfl (fun K hK => ?_)); go_simp; (first | (refine hK _ ?_; clear hK K) | (apply Exists.intro; refine ⟨fun z => ?_, hK _ ?_⟩; (first | done); clear hK K)))
                          clear p0 p1 p2 q4 q5
                          refine Two.Ph.mix3_loud rfl (fun K hK => ?_)
                          go_simp
                          refine hK _ _ ?_
                          clear hK K
                          have hba := Lib.hid (hbd.out.alloc hbd.out.size (.cells #[.string (str x1), .int .i64 x, .string (str x2)] 100))
                          have HSa := Lib.hid (HSd.out.below ((Below.refl wd.heap.size wd).alloc (Nat.le_refl _) (.cells #[.string (str x1), .int .i64 x, .string (str x2)] 100)))
                          have HSr : Hid (Sl (wd.alloc (.cells #[.string (str x1), .int .i64 x, .string (str x2)] 100)) 3 1 (.slice (some ⟨wd.heap.size, 0, none⟩) 1 1) (RW.cells [(x1, (x : Int), x2)])) := Sl.lit wd 100 3 1 #[.string (str x1), .int .i64 x, .string (str x2)] (0, 0) rfl (by decide)
                          clear hbd HSd
                          repeat ((first | refine Two.Ph.mix3_soft rfl (fun K hK => ?_) | refine Two.Ph.mix3_soon rfl (fun K hK => ?_)); go_simp; (first | (refine hK _ ?_; clear hK K) | (apply Exists.intro; refine ⟨fun z => ?_, hK _ ?_⟩; (first | done); clear hK K)))
                          refine Two.Ph.mix3_loud rfl (fun K hK => ?_)
                          refine ite_yes rfl ?_
                          rintro ⟨_, rfl⟩
                          refine hOper_append_st _ _ 40 rfl w2.heap.size 100 _ 3 40 Tryd.underlying40 infoRw rfl (by decide) _ _ _ rfl HSa.out.o10 _ 1 (RW.cells [(x1, (x : Int), x2)]) rfl HSr.out (rw_oneCell _) (by unfold maxLen; (try simp only [List.length_append]); omega) (by (try simp only [List.length_append]); omega) hba.out.size ?_
                          intro v10n wn hown hgrow hsame
                          have HS := Lib.hid (HSa.out.app10 (new := [(x1, (x : Int), x2)]) hgrow (by
                            have := hown
                            rw [← RW.cells_append] at this
                            rw [List.length_append (bs := [(x1, (x : Int), x2)])]
                            exact this) hsame)
                          have hbr : Hid (Below w2.heap.size w2 wn) := hba.out.grown hgrow hba.out.size (ownBlock_ge HSa.out.o10)
                          refine ⟨trivial, hK _ _ ?_⟩
                          clear hK K hown hgrow hsame HSa hba HSr
                          repeat ((first | refine Two.Ph.mix3_soft rfl (fun K hK => ?_) | refine Two.Ph.mix3_soon rfl (fun K hK => ?_)); go_simp; (first | (refine hK _ ?_; clear hK K) | (apply Exists.intro; refine ⟨fun z => ?_, hK _ ?_⟩; (first | done); clear hK K)))
                          refine Two.Ph.mix3_done fun w' h => ?_
                          subst h
                          obtain ⟨p0, p1, p2⟩ := HCc.out wn hbr.out
                          obtain ⟨-, -, -, -, q4, q5, -⟩ := HE.out.at hbr.out
                          simp only [] at q4 q5
                          have HA2 : Hid (M.allOf ⟨o0, o1, o2, o3, o4, o5, o6, o7, o8, o9, kk⟩ x (l.take (j + 1)) = M.allOf ⟨o0, o1, o2, o3, o4, o5, o6, o7, o8, o9, kk⟩ x (l.take j) ++ [(o5, (x : Int), x2)]) := by
                            unfold Hid
                            rw [HSa.out, show (M.inB ⟨o0, o1, o2, o3, o4, o5, o6, o7, o8, o9, kk⟩ (x0, x1, x2) && (x1 == o5)) = true by unfold M.inB; simp [e0, hE, e5]]
                            simp
                          have HO2 : Hid (M.ownOf ⟨o0, o1, o2, o3, o4, o5, o6, o7, o8, o9, kk⟩ x (l.take (j + 1)) = M.ownOf ⟨o0, o1, o2, o3, o4, o5, o6, o7, o8, o9, kk⟩ x (l.take j) ++ [(x1, (x : Int), x2)]) := by
                            unfold Hid
                            rw [HSo.out, show (M.inB ⟨o0, o1, o2, o3, o4, o5, o6, o7, o8, o9, kk⟩ (x0, x1, x2) && !(blt x1 o5)) = true by unfold M.inB; simp [e0, hE, h2]]
                            simp
                          have HS9 := HS.out
                          clear p0 p1 p2 q4 q5 HS
                          go_wp2_with fail
                          go_roundw
                          case rel => exact ⟨j + 1, by omega, by go_num, by rw [HA2.out, HO2.out]; rw [← List.append_assoc]; exact HS9, hbr⟩
                          case measure => simp [intOf]; omega
                      | false =>
                        go_wp2_with fail
                        go_quiet (fail)
                        have hbq := Lib.hid (below_next hbr.out (below_drewN w6 nq))
                        have HSq := Lib.hid (HS.out.below (below_drewN w6 nq))
                        clear hbr HS p0 p1 p2 q4 q5
                        generalize w6.drewN nq = w7 at *
                        have hbr := hbq
                        have HS := HSq
                        clear hbq HSq
                        obtain ⟨p0, p1, p2⟩ := HCc.out w7 hbr.out
                        obtain ⟨-, -, -, -, q4, q5, -⟩ := HE.out.at hbr.out
                        simp only [] at q4 q5
                        cases h2 : blt x1 o5 with
                        | true =>
                          have h2' : Op.bytesLess x1 o5 = true := h2
                          go_wp2_with fail
                          go_quiet (fail)
                          have hbq := Lib.hid (below_next hbr.out (below_drewN w7 nq))
                          have HSq := Lib.hid (HS.out.below (below_drewN w7 nq))
                          clear hbr HS p0 p1 p2 q4 q5
                          generalize w7.drewN nq = w8 at *
                          have hbr := hbq
                          have HS := HSq
                          clear hbq HSq
                          obtain ⟨p0, p1, p2⟩ := HCc.out w8 hbr.out
                          obtain ⟨-, -, -, -, q4, q5, -⟩ := HE.out.at hbr.out
                          simp only [] at q4 q5
                          have HA2 : Hid (M.allOf ⟨o0, o1, o2, o3, o4, o5, o6, o7, o8, o9, kk⟩ x (l.take (j + 1)) = M.allOf ⟨o0, o1, o2, o3, o4, o5, o6, o7, o8, o9, kk⟩ x (l.take j)) := by
                            unfold Hid
                            rw [HSa.out, show (M.inB ⟨o0, o1, o2, o3, o4, o5, o6, o7, o8, o9, kk⟩ (x0, x1, x2) && (x1 == o5)) = false by unfold M.inB; simp [e5]]
                            simp
                          have HO2 : Hid (M.ownOf ⟨o0, o1, o2, o3, o4, o5, o6, o7, o8, o9, kk⟩ x (l.take (j + 1)) = M.ownOf ⟨o0, o1, o2, o3, o4, o5, o6, o7, o8, o9, kk⟩ x (l.take j)) := by
                            unfold Hid
                            rw [HSo.out, show (M.inB ⟨o0, o1, o2, o3, o4, o5, o6, o7, o8, o9, kk⟩ (x0, x1, x2) && !(blt x1 o5)) = false by unfold M.inB; simp [e0, hE, h2]]
                            simp
                          have HS9 := HS.out
                          clear p0 p1 p2 q4 q5 HS
                          go_wp2_with fail
                          go_roundw
                          case rel => exact ⟨j + 1, by omega, by go_num, by rw [HA2.out, HO2.out]; exact HS9, hbr⟩
                          case measure => simp [intOf]; omega
                        | false =>
                          have h2' : Op.bytesLess x1 o5 = false := h2
                          go_wp2_with fail
                          go_quiet (fail)
                          have hbq := Lib.hid (below_next hbr.out (below_drewN w7 nq))
                          have HSq := Lib.hid (HS.out.below (below_drewN w7 nq))
                          clear hbr HS p0 p1 p2 q4 q5
                          generalize w7.drewN nq = w8 at *
                          have hbr := hbq
                          have HS := HSq
                          clear hbq HSq
                          obtain ⟨p0, p1, p2⟩ := HCc.out w8 hbr.out
                          obtain ⟨-, -, -, -, q4, q5, -⟩ := HE.out.at hbr.out
                          simp only [] at q4 q5
                          go_wp2_with fail
                          refine Two.Ph.wp_region_mix3 Two.Ph.eq_grow Two.Ph.any_grow (fun _ _ _ => trivial) [13, 14] [(0, 0), (1, 0), (2, 0), (3, 0), (4, 0), (5, 2), (6, 2), (7, 0), (8, 0), (9, 0), (10, 0), (11, 2), (12, 2), (13, 1), (14, 1), (15, 0)] (by kernel_rfl) (by kernel_rfl) ?_
                          have hbd := Lib.hid (below_next hbr.out (below_drewN w8 1))
                          have HSd := Lib.hid (HS.out.below (below_drewN w8 1))
                          clear hbr HS p0 p1 p2 q4 q5
                          have hgd : w8.drewN 1 = w8.drew := rfl
                          rw [hgd] at hbd HSd
                          clear hgd
                          generalize w8.drew = wd at *
                          obtain ⟨p0, p1, p2⟩ := HCc.out wd hbd.out
                          obtain ⟨-, -, -, -, q4, q5, -⟩ := HE.out.at hbd.out
                          simp only [] at q4 q5
                          repeat ((first | refine Two.Ph.mix3_soft rfl (fun K hK => ?_) | refine Two.Ph.mix3_soon rfl (fun K hK => ?_)); go_simp; (first | (refine hK _ ?_; clear hK K) | (apply Exists.intro; refine ⟨fun z => ?_, hK _ ?_⟩; (first | done); clear hK K)))
                          clear p0 p1 p2 q4 q5
                          refine Two.Ph.mix3_loud rfl (fun K hK => ?_)
                          go_simp
                          refine hK _ _ ?_
                          clear hK K
                          have hba := Lib.hid (hbd.out.alloc hbd.out.size (.cells #[.string (str x1), .int .i64 x, .string (str x2)] 100))
                          have HSa := Lib.hid (HSd.out.below ((Below.refl wd.heap.size wd).alloc (Nat.le_refl _) (.cells #[.string (str x1), .int .i64 x, .string (str x2)] 100)))
                          have HSr : Hid (Sl (wd.alloc (.cells #[.string (str x1), .int .i64 x, .string (str x2)] 100)) 3 1 (.slice (some ⟨wd.heap.size, 0, none⟩) 1 1) (RW.cells [(x1, (x : Int), x2)])) := Sl.lit wd 100 3 1 #[.string (str x1), .int .i64 x, .string (str x2)] (0, 0) rfl (by decide)
                          clear hbd HSd
                          repeat ((first | refine Two.Ph.mix3_soft rfl (fun K hK => ?_) | refine Two.Ph.mix3_soon rfl (fun K hK => ?_)); go_simp; (first | (refine hK _ ?_; clear hK K) | (apply Exists.intro; refine ⟨fun z => ?_, hK _ ?_⟩; (first | done); clear hK K)))
                          refine Two.Ph.mix3_loud rfl (fun K hK => ?_)
                          refine ite_yes rfl ?_
                          rintro ⟨_, rfl⟩
                          refine hOper_append_st _ _ 40 rfl w2.heap.size 100 _ 3 40 Tryd.underlying40 infoRw rfl (by decide) _ _ _ rfl HSa.out.o10 _ 1 (RW.cells [(x1, (x : Int), x2)]) rfl HSr.out (rw_oneCell _) (by unfold maxLen; (try simp only [List.length_append]); omega) (by (try simp only [List.length_append]); omega) hba.out.size ?_
                          intro v10n wn hown hgrow hsame
                          have HS := Lib.hid (HSa.out.app10 (new := [(x1, (x : Int), x2)]) hgrow (by
                            have := hown
                            rw [← RW.cells_append] at this
                            rw [List.length_append (bs := [(x1, (x : Int), x2)])]
                            exact this) hsame)
                          have hbr : Hid (Below w2.heap.size w2 wn) := hba.out.grown hgrow hba.out.size (ownBlock_ge HSa.out.o10)
                          refine ⟨trivial, hK _ _ ?_⟩
                          clear hK K hown hgrow hsame HSa hba HSr
                          repeat ((first | refine Two.Ph.mix3_soft rfl (fun K hK => ?_) | refine Two.Ph.mix3_soon rfl (fun K hK => ?_)); go_simp; (first | (refine hK _ ?_; clear hK K) | (apply Exists.intro; refine ⟨fun z => ?_, hK _ ?_⟩; (first | done); clear hK K)))
                          refine Two.Ph.mix3_done fun w' h => ?_
                          subst h
                          obtain ⟨p0, p1, p2⟩ := HCc.out wn hbr.out
                          obtain ⟨-, -, -, -, q4, q5, -⟩ := HE.out.at hbr.out
                          simp only [] at q4 q5
                          have HA2 : Hid (M.allOf ⟨o0, o1, o2, o3, o4, o5, o6, o7, o8, o9, kk⟩ x (l.take (j + 1)) = M.allOf ⟨o0, o1, o2, o3, o4, o5, o6, o7, o8, o9, kk⟩ x (l.take j)) := by
                            unfold Hid
                            rw [HSa.out, show (M.inB ⟨o0, o1, o2, o3, o4, o5, o6, o7, o8, o9, kk⟩ (x0, x1, x2) && (x1 == o5)) = false by unfold M.inB; simp [e5]]
                            simp
                          have HO2 : Hid (M.ownOf ⟨o0, o1, o2, o3, o4, o5, o6, o7, o8, o9, kk⟩ x (l.take (j + 1)) = M.ownOf ⟨o0, o1, o2, o3, o4, o5, o6, o7, o8, o9, kk⟩ x (l.take j) ++ [(x1, (x : Int), x2)]) := by
                            unfold Hid
                            rw [HSo.out, show (M.inB ⟨o0, o1, o2, o3, o4, o5, o6, o7, o8, o9, kk⟩ (x0, x1, x2) && !(blt x1 o5)) = true by unfold M.inB; simp [e0, hE, h2]]
                            simp
                          have HS9 := HS.out
                          clear p0 p1 p2 q4 q5 HS
                          go_wp2_with fail
                          go_roundw
                          case rel => exact ⟨j + 1, by omega, by go_num, by rw [HA2.out, HO2.out]; exact HS9, hbr⟩
                          case measure => simp [intOf]; omega
                  | false =>
                    go_wp2_with fail
                    go_quiet (fail)
                    have hbq := Lib.hid (below_next hbr.out (below_drewN wr nq))
                    have HSq := Lib.hid (HS.out.below (below_drewN wr nq))
                    clear hbr HS p0 p1 p2 q4 q5
                    generalize wr.drewN nq = w6 at *
                    have hbr := hbq
                    have HS := HSq
                    clear hbq HSq
                    obtain ⟨p0, p1, p2⟩ := HCc.out w6 hbr.out
                    obtain ⟨-, -, -, -, q4, q5, -⟩ := HE.out.at hbr.out
                    simp only [] at q4 q5
                    have HA2 : Hid (M.allOf ⟨o0, o1, o2, o3, o4, o5, o6, o7, o8, o9, kk⟩ x (l.take (j + 1)) = M.allOf ⟨o0, o1, o2, o3, o4, o5, o6, o7, o8, o9, kk⟩ x (l.take j)) := by
                      unfold Hid
                      rw [HSa.out, show (M.inB ⟨o0, o1, o2, o3, o4, o5, o6, o7, o8, o9, kk⟩ (x0, x1, x2) && (x1 == o5)) = false by unfold M.inB; simp [e0]]
                      simp
                    have HO2 : Hid (M.ownOf ⟨o0, o1, o2, o3, o4, o5, o6, o7, o8, o9, kk⟩ x (l.take (j + 1)) = M.ownOf ⟨o0, o1, o2, o3, o4, o5, o6, o7, o8, o9, kk⟩ x (l.take j)) := by
                      unfold Hid
                      rw [HSo.out, show (M.inB ⟨o0, o1, o2, o3, o4, o5, o6, o7, o8, o9, kk⟩ (x0, x1, x2) && !(blt x1 o5)) = false by unfold M.inB; simp [e0]]
                      simp
                    have HS9 := HS.out
                    clear p0 p1 p2 q4 q5 HS
                    go_wp2_with fail
                    go_roundw
                    case rel => exact ⟨j + 1, by omega, by go_num, by rw [HA2.out, HO2.out]; exact HS9, hbr⟩
                    case measure => simp [intOf]; omega
                · have hjI : ¬ ((j : Int) < (N : Int)) := by omega
                  obtain rfl : j = N := by omega
                  rw [List.take_of_length_le (Nat.le_of_eq HLn.out)] at HS
                  have HST2 : Hid (M.rfold us m ⟨o0, o1, o2, o3, o4, o5, o6, o7, o8, o9, kk⟩ (x + 1) = ⟨true, rows ++ [M.ownOf ⟨o0, o1, o2, o3, o4, o5, o6, o7, o8, o9, kk⟩ x l], all ++ M.allOf ⟨o0, o1, o2, o3, o4, o5, o6, o7, o8, o9, kk⟩ x l⟩) := HSTt.out
                  obtain ⟨vo, hvo⟩ : ∃ vo, vo = u10 := ⟨_, rfl⟩
                  rw [← hvo] at HS ⊢
                  clear hvo
                  obtain ⟨ao, co, rfl, -⟩ := (Sl.of_owns HS.out.o10).shape
                  have hba := Lib.hid (hbr.out.alloc hbr.out.size (.cells #[.slice ao (M.ownOf ⟨o0, o1, o2, o3, o4, o5, o6, o7, o8, o9, kk⟩ x l).length co] 40))
                  have HSa := Lib.hid (HS.out.below ((Below.refl wr.heap.size wr).alloc (Nat.le_refl _) (.cells #[.slice ao (M.ownOf ⟨o0, o1, o2, o3, o4, o5, o6, o7, o8, o9, kk⟩ x l).length co] 40)))
                  have HSr : Hid (Sl (wr.alloc (.cells #[.slice ao (M.ownOf ⟨o0, o1, o2, o3, o4, o5, o6, o7, o8, o9, kk⟩ x l).length co] 40)) 1 1 (.slice (some ⟨wr.heap.size, 0, none⟩) 1 1) [.slice ao (M.ownOf ⟨o0, o1, o2, o3, o4, o5, o6, o7, o8, o9, kk⟩ x l).length co]) := Sl.lit wr 40 1 1 #[.slice ao (M.ownOf ⟨o0, o1, o2, o3, o4, o5, o6, o7, o8, o9, kk⟩ x l).length co] (0, 0) rfl (by decide)
                  clear HS hbr HSTt
                  go_wp2_with (at_builtin; go_must (refine wpList_append_st rfl _ _ 94 rfl w2.heap.size 40 _ 1 24 Tryd.underlying94 infoVs rfl (by decide) _ _ _ rfl HSa.out.o6 _ 1 [.slice ao (M.ownOf ⟨o0, o1, o2, o3, o4, o5, o6, o7, o8, o9, kk⟩ x l).length co] rfl HSr.out (by intro u hu; rw [List.mem_singleton] at hu; subst hu; rfl) (by unfold maxLen; omega) (by omega) hba.out.size ?_))
                  intro v6n wn hown hgrow hsame
                  have HS9 := Lib.hid (HSa.out.app6 hgrow hown (by simpa using hsame))
                  have hb9 : Hid (Below w2.heap.size w2 wn) := hba.out.grown hgrow hba.out.size (ownBlock_ge HSa.out.o6)
                  clear hown hgrow hsame HSa hba HSr
                  go_wp2_with fail
                  go_roundw
                  case rel => exact ⟨x + 1, ul ++ [.slice ao (M.ownOf ⟨o0, o1, o2, o3, o4, o5, o6, o7, o8, o9, kk⟩ x l).length co], by omega, by go_num, by rw [HST2.out], by rw [HST2.out]; exact HS9.out, hb9⟩
                  case measure => simp [intOf]; omega
            | false =>
              obtain ⟨f, hf⟩ : ∃ f, M.find l o4 [] = f := ⟨_, rfl⟩
              rw [hf] at HF hfle
              have HSTt : Hid (M.rfold us m ⟨o0, o1, o2, o3, o4, o5, o6, o7, o8, o9, kk⟩ (x + 1) = ⟨decide (0 ≤ f), rows ++ [M.ownOf ⟨o0, o1, o2, o3, o4, o5, o6, o7, o8, o9, kk⟩ x l], all ++ M.allOf ⟨o0, o1, o2, o3, o4, o5, o6, o7, o8, o9, kk⟩ x l⟩) := by unfold Hid; rw [HSTt.out, hf]; rfl
              clear hf
              go_wp2_with fail
              refine HF.out.mono ?_
              rintro e w' ⟨rfl, rfl⟩
              clear HF q4
              obtain ⟨al, cl, rfl, -⟩ := HEs.out.shape
              rw [HLn.out] at HEs ⊢
              go_wp2_with fail
              go_loopw [7, 10, 11] (fun v7 v10 i wr => ∃ j : Nat, j ≤ N ∧ i = .int .i64 j ∧ Hid (RS wr w2.heap.size u6 v7 v10 ul rows (all ++ M.allOf ⟨o0, o1, o2, o3, o4, o5, o6, o7, o8, o9, kk⟩ x (l.take j)) (M.ownOf ⟨o0, o1, o2, o3, o4, o5, o6, o7, o8, o9, kk⟩ x (l.take j))) ∧ Hid (Below w2.heap.size w2 wr)) (fun _ _ i _ => N - (intOf i).toNat)
              case atStart => exact ⟨0, by omega, rfl, (by unfold Hid; simpa [M.allOf, M.ownOf] using HS5.out), hb5⟩
              case round =>
                clear HS5 hb5
                obtain ⟨j, hj, rfl, HS, hbr⟩ := hrel
                have hla := M.allOf_len ⟨o0, o1, o2, o3, o4, o5, o6, o7, o8, o9, kk⟩ x (l.take j)
                have hlo := M.ownOf_len ⟨o0, o1, o2, o3, o4, o5, o6, o7, o8, o9, kk⟩ x (l.take j)
                rw [List.length_take, HLn.out, Nat.min_eq_left hj] at hla hlo
                by_cases hjn : j < N
                · have hjI : (j : Int) < (N : Int) := by omega
                  have hj0 : (0 : Int) ≤ (j : Int) := by omega
                  obtain ⟨bb, off, rfl, hc⟩ := HEs.out.at (k := j) (by rw [HLn.out]; exact hjn)
                  have HSa := M.allOf_step (o := ⟨o0, o1, o2, o3, o4, o5, o6, o7, o8, o9, kk⟩) (x := x) (l := l) (i := j) (by rw [HLn.out]; exact hjn)
                  have HSo := M.ownOf_step (o := ⟨o0, o1, o2, o3, o4, o5, o6, o7, o8, o9, kk⟩) (x := x) (l := l) (i := j) (by rw [HLn.out]; exact hjn)
                  obtain ⟨y, hy⟩ : ∃ y, (l[j]'(by rw [HLn.out]; exact hjn)) = y := ⟨_, rfl⟩
                  rw [hy] at hc HSa HSo
                  obtain ⟨x0, x1, x2⟩ := y
                  simp only [] at hc HSa HSo
                  have HCc := Lib.hid hc
                  have HSa := Lib.hid HSa
                  have HSo := Lib.hid HSo
                  obtain ⟨p0, p1, p2⟩ := HCc.out wr hbr.out
                  obtain ⟨-, -, -, -, q4, q5, -⟩ := HE.out.at hbr.out
                  simp only [] at q4 q5
                  clear hc hy
                  cases e0 : (x0 == o4) with
                  | true =>
                    by_cases hx1 : x1 = []
                    · have hE : x1.isEmpty = true := by simpa using hx1
                      go_wp2_with fail
                      go_quiet (fail)
                      have hbq := Lib.hid (below_next hbr.out (below_drewN wr nq))
                      have HSq := Lib.hid (HS.out.below (below_drewN wr nq))
                      clear hbr HS p0 p1 p2 q4 q5
                      generalize wr.drewN nq = w6 at *
                      have hbr := hbq
                      have HS := HSq
                      clear hbq HSq
                      obtain ⟨p0, p1, p2⟩ := HCc.out w6 hbr.out
                      obtain ⟨-, -, -, -, q4, q5, -⟩ := HE.out.at hbr.out
                      simp only [] at q4 q5
                      have HA2 : Hid (M.allOf ⟨o0, o1, o2, o3, o4, o5, o6, o7, o8, o9, kk⟩ x (l.take (j + 1)) = M.allOf ⟨o0, o1, o2, o3, o4, o5, o6, o7, o8, o9, kk⟩ x (l.take j)) := by
                        unfold Hid
                        rw [HSa.out, show (M.inB ⟨o0, o1, o2, o3, o4, o5, o6, o7, o8, o9, kk⟩ (x0, x1, x2) && (x1 == o5)) = false by unfold M.inB; simp [hE]]
                        simp
                      have HO2 : Hid (M.ownOf ⟨o0, o1, o2, o3, o4, o5, o6, o7, o8, o9, kk⟩ x (l.take (j + 1)) = M.ownOf ⟨o0, o1, o2, o3, o4, o5, o6, o7, o8, o9, kk⟩ x (l.take j)) := by
                        unfold Hid
                        rw [HSo.out, show (M.inB ⟨o0, o1, o2, o3, o4, o5, o6, o7, o8, o9, kk⟩ (x0, x1, x2) && !(blt x1 o5)) = false by unfold M.inB; simp [hE]]
                        simp
                      have HS9 := HS.out
                      clear p0 p1 p2 q4 q5 HS
                      go_wp2_with fail
                      go_roundw
                      case rel => exact ⟨j + 1, by omega, by go_num, by rw [HA2.out, HO2.out]; exact HS9, hbr⟩
                      case measure => simp [intOf]; omega
                    · have hE : x1.isEmpty = false := by simpa using hx1
                      go_wp2_with fail
                      go_quiet (fail)
                      have hbq := Lib.hid (below_next hbr.out (below_drewN wr nq))
                      have HSq := Lib.hid (HS.out.below (below_drewN wr nq))
                      clear hbr HS p0 p1 p2 q4 q5
                      generalize wr.drewN nq = w6 at *
                      have hbr := hbq
                      have HS := HSq
                      clear hbq HSq
                      obtain ⟨p0, p1, p2⟩ := HCc.out w6 hbr.out
                      obtain ⟨-, -, -, -, q4, q5, -⟩ := HE.out.at hbr.out
                      simp only [] at q4 q5
                      cases e5 : (x1 == o5) with
                      | true =>
                        go_wp2_with fail
                        go_quiet (fail)
                        have hbq := Lib.hid (below_next hbr.out (below_drewN w6 nq))
                        have HSq := Lib.hid (HS.out.below (below_drewN w6 nq))
                        clear hbr HS p0 p1 p2 q4 q5
                        generalize w6.drewN nq = w7 at *
                        have hbr := hbq
                        have HS := HSq
                        clear hbq HSq
                        obtain ⟨p0, p1, p2⟩ := HCc.out w7 hbr.out
                        obtain ⟨-, -, -, -, q4, q5, -⟩ := HE.out.at hbr.out
                        simp only [] at q4 q5
                        go_wp2_with fail
                        refine Two.Ph.wp_region_mix3 Two.Ph.eq_grow Two.Ph.any_grow (fun _ _ _ => trivial) [10, 11] [(0, 0), (1, 0), (2, 2), (3, 2), (4, 0), (5, 0), (6, 0), (7, 0), (8, 2), (9, 2), (10, 1), (11, 1), (12, 0)] (by kernel_rfl) (by kernel_rfl) ?_
                        have hbd := Lib.hid (below_next hbr.out (below_drewN w7 1))
                        have HSd := Lib.hid (HS.out.below (below_drewN w7 1))
                        clear hbr HS p0 p1 p2 q4 q5
                        have hgd : w7.drewN 1 = w7.drew := rfl
                        rw [hgd] at hbd HSd
                        clear hgd
                        generalize w7.drew = wd at *
                        obtain ⟨p0, p1, p2⟩ := HCc.out wd hbd.out
                        obtain ⟨-, -, -, -, q4, q5, -⟩ := HE.out.at hbd.out
                        simp only [] at q4 q5
                        repeat ((first | refine Two.Ph.mix3_soft rfl (fun K hK => ?_) | refine Two.Ph.mix3_soon rfl (fun K hK => ?_)); go_simp; (first | (refine hK _ ?_; clear hK K) | (apply Exists.intro; refine ⟨fun z => ?_, hK _ ?_⟩; (first | done); clear hK K)))
                        clear p0 p1 p2 q4 q5
                        refine Two.Ph.mix3_loud rfl (fun K hK => ?_)
                        go_simp
                        refine hK _ _ ?_
                        clear hK K
                        have hba := Lib.hid (hbd.out.alloc hbd.out.size (.cells #[.string (str o5), .int .i64 x, .string (str x2)] 100))
                        have HSa := Lib.hid (HSd.out.below ((Below.refl wd.heap.size wd).alloc (Nat.le_refl _) (.cells #[.string (str o5), .int .i64 x, .string (str x2)] 100)))
                        have HSr : Hid (Sl (wd.alloc (.cells #[.string (str o5), .int .i64 x, .string (str x2)] 100)) 3 1 (.slice (some ⟨wd.heap.size, 0, none⟩) 1 1) (RW.cells [(o5, (x : Int), x2)])) := Sl.lit wd 100 3 1 #[.string (str o5), .int .i64 x, .string (str x2)] (0, 0) rfl (by decide)
                        clear hbd HSd
                        repeat ((first | refine Two.Ph.mix3_soft rfl (fun K hK => ?_) | refine Two.Ph.mix3_soon rfl (fun K hK => ?_)); go_simp; (first | (refine hK _ ?_; clear hK K) | (apply Exists.intro; refine ⟨fun z => ?_, hK _ ?_⟩; (first | done); clear hK K)))
                        refine Two.Ph.mix3_loud rfl (fun K hK => ?_)
                        refine ite_yes rfl ?_
                        rintro ⟨_, rfl⟩
                        refine hOper_append_st _ _ 40 rfl w2.heap.size 100 _ 3 40 Tryd.underlying40 infoRw rfl (by decide) _ _ _ rfl HSa.out.o7 _ 1 (RW.cells [(o5, (x : Int), x2)]) rfl HSr.out (rw_oneCell _) (by unfold maxLen; (try simp only [List.length_append]); omega) (by (try simp only [List.length_append]); omega) hba.out.size ?_
                        intro v7n wn hown hgrow hsame
                        have HS := Lib.hid (HSa.out.app7 (new := [(o5, (x : Int), x2)]) hgrow (by
                          have := hown
                          rw [← RW.cells_append] at this
                          rw [List.length_append (bs := [(o5, (x : Int), x2)])]
                          exact this) hsame)
                        have hbr : Hid (Below w2.heap.size w2 wn) := hba.out.grown hgrow hba.out.size (ownBlock_ge HSa.out.o7)
                        refine ⟨trivial, hK _ _ ?_⟩
                        clear hK K hown hgrow hsame HSa hba HSr
                        repeat ((first | refine Two.Ph.mix3_soft rfl (fun K hK => ?_) | refine Two.Ph.mix3_soon rfl (fun K hK => ?_)); go_simp; (first | (refine hK _ ?_; clear hK K) | (apply Exists.intro; refine ⟨fun z => ?_, hK _ ?_⟩; (first | done); clear hK K)))
                        refine Two.Ph.mix3_done fun w' h => ?_
                        subst h
                        obtain ⟨p0, p1, p2⟩ := HCc.out wn hbr.out
                        obtain ⟨-, -, -, -, q4, q5, -⟩ := HE.out.at hbr.out
                        simp only [] at q4 q5
                        cases h2 : blt x1 o5 with
                        | true =>
                          have h2' : Op.bytesLess x1 o5 = true := h2
                          go_wp2_with fail
                          go_quiet (fail)
                          have hbq := Lib.hid (below_next hbr.out (below_drewN wn nq))
                          have HSq := Lib.hid (HS.out.below (below_drewN wn nq))
                          clear hbr HS p0 p1 p2 q4 q5
                          generalize wn.drewN nq = w8 at *
                          have hbr := hbq
                          have HS := HSq
                          clear hbq HSq
                          obtain ⟨p0, p1, p2⟩ := HCc.out w8 hbr.out
                          obtain ⟨-, -, -, -, q4, q5, -⟩ := HE.out.at hbr.out
                          simp only [] at q4 q5
                          have HA2 : Hid (M.allOf ⟨o0, o1, o2, o3, o4, o5, o6, o7, o8, o9, kk⟩ x (l.take (j + 1)) = M.allOf ⟨o0, o1, o2, o3, o4, o5, o6, o7, o8, o9, kk⟩ x (l.take j) ++ [(o5, (x : Int), x2)]) := by
                            unfold Hid
                            rw [HSa.out, show (M.inB ⟨o0, o1, o2, o3, o4, o5, o6, o7, o8, o9, kk⟩ (x0, x1, x2) && (x1 == o5)) = true by unfold M.inB; simp [e0, hE, e5]]
                            simp
                          have HO2 : Hid (M.ownOf ⟨o0, o1, o2, o3, o4, o5, o6, o7, o8, o9, kk⟩ x (l.take (j + 1)) = M.ownOf ⟨o0, o1, o2, o3, o4, o5, o6, o7, o8, o9, kk⟩ x (l.take j)) := by
                            unfold Hid
                            rw [HSo.out, show (M.inB ⟨o0, o1, o2, o3, o4, o5, o6, o7, o8, o9, kk⟩ (x0, x1, x2) && !(blt x1 o5)) = false by unfold M.inB; simp [e0, hE, h2]]
                            simp
                          have HS9 := HS.out
                          clear p0 p1 p2 q4 q5 HS
                          go_wp2_with fail
                          go_roundw
                          case rel => exact ⟨j + 1, by omega, by go_num, by rw [HA2.out, HO2.out]; rw [← List.append_assoc]; exact HS9, hbr⟩
                          case measure => simp [intOf]; omega
                        | false =>
                          have h2' : Op.bytesLess x1 o5 = false := h2
                          go_wp2_with fail
                          go_quiet (fail)
                          have hbq := Lib.hid (below_next hbr.out (below_drewN wn nq))
                          have HSq := Lib.hid (HS.out.below (below_drewN wn nq))
                          clear hbr HS p0 p1 p2 q4 q5
                          generalize wn.drewN nq = w8 at *
                          have hbr := hbq
                          have HS := HSq
                          clear hbq HSq
                          obtain ⟨p0, p1, p2⟩ := HCc.out w8 hbr.out
                          obtain ⟨-, -, -, -, q4, q5, -⟩ := HE.out.at hbr.out
                          simp only [] at q4 q5
                          go_wp2_with fail
                          refine Two.Ph.wp_region_mix3 Two.Ph.eq_grow Two.Ph.any_grow (fun _ _ _ => trivial) [13, 14] [(0, 0), (1, 0), (2, 0), (3, 0), (4, 0), (5, 2), (6, 2), (7, 0), (8, 0), (9, 0), (10, 0), (11, 2), (12, 2), (13, 1), (14, 1), (15, 0)] (by kernel_rfl) (by kernel_rfl) ?_
                          have hbd := Lib.hid (below_next hbr.out (below_drewN w8 1))
                          have HSd := Lib.hid (HS.out.below (below_drewN w8 1))
                          clear hbr HS p0 p1 p2 q4 q5
                          have hgd : w8.drewN 1 = w8.drew := rfl
                          rw [hgd] at hbd HSd
                          clear hgd
                          generalize w8.drew = wd at *
                          obtain ⟨p0, p1, p2⟩ := HCc.out wd hbd.out
                          obtain ⟨-, -, -, -, q4, q5, -⟩ := HE.out.at hbd.out
                          simp only [] at q4 q5
                          repeat ((first | refine Two.Ph.mix3_soft rfl (fun K hK => ?_) | refine Two.Ph.mix3_soon rfl (fun K hK => ?_)); go_simp; (first | (refine hK _ ?_; clear hK K) | (apply Exists.intro; refine ⟨fun z => ?_, hK _ ?_⟩; (first | done); clear hK K)))
                          clear p0 p1 p2 q4 q5
                          refine Two.Ph.mix3_loud rfl (fun K hK => ?_)
                          go_simp
                          refine hK _ _ ?_
                          clear hK K
                          have hba := Lib.hid (hbd.out.alloc hbd.out.size (.cells #[.string (str x1), .int .i64 x, .string (str x2)] 100))
                          have HSa := Lib.hid (HSd.out.below ((Below.refl wd.heap.size wd).alloc (Nat.le_refl _) (.cells #[.string (str x1), .int .i64 x, .string (str x2)] 100)))
                          have HSr : Hid (Sl (wd.alloc (.cells #[.string (str x1), .int .i64 x, .string (str x2)] 100)) 3 1 (.slice (some ⟨wd.heap.size, 0, none⟩) 1 1) (RW.cells [(x1, (x : Int), x2)])) := Sl.lit wd 100 3 1 #[.string (str x1), .int .i64 x, .string (str x2)] (0, 0) rfl (by decide)
                          clear hbd HSd
                          repeat ((first | refine Two.Ph.mix3_soft rfl (fun K hK => ?_) | refine Two.Ph.mix3_soon rfl (fun K hK => ?_)); go_simp; (first | (refine hK _ ?_; clear hK K) | (apply Exists.intro; refine ⟨fun z => ?_, hK _ ?_⟩; (first | done); clear hK K)))
                          refine Two.Ph.mix3_loud rfl (fun K hK => ?_)
                          refine ite_yes rfl ?_
                          rintro ⟨_, rfl⟩
                          refine hOper_append_st _ _ 40 rfl w2.heap.size 100 _ 3 40 Tryd.underlying40 infoRw rfl (by decide) _ _ _ rfl HSa.out.o10 _ 1 (RW.cells [(x1, (x : Int), x2)]) rfl HSr.out (rw_oneCell _) (by unfold maxLen; (try simp only [List.length_append]); omega) (by (try simp only [List.length_append]); omega) hba.out.size ?_
                          intro v10n wn hown hgrow hsame
                          have HS := Lib.hid (HSa.out.app10 (new := [(x1, (x : Int), x2)]) hgrow (by
                            have := hown
                            rw [← RW.cells_append] at this
                            rw [List.length_append (bs := [(x1, (x : Int), x2)])]
                            exact this) hsame)
                          have hbr : Hid (Below w2.heap.size w2 wn) := hba.out.grown hgrow hba.out.size (ownBlock_ge HSa.out.o10)
                          refine ⟨trivial, hK _ _ ?_⟩
                          clear hK K hown hgrow hsame HSa hba HSr
                          repeat ((first | refine Two.Ph.mix3_soft rfl (fun K hK => ?_) | refine Two.Ph.mix3_soon rfl (fun K hK => ?_)); go_simp; (first | (refine hK _ ?_; clear hK K) | (apply Exists.intro; refine ⟨fun z => ?_, hK _ ?_⟩; (first | done); clear hK K)))
                          refine Two.Ph.mix3_done fun w' h => ?_
                          subst h
                          obtain ⟨p0, p1, p2⟩ := HCc.out wn hbr.out
                          obtain ⟨-, -, -, -, q4, q5, -⟩ := HE.out.at hbr.out
                          simp only [] at q4 q5
                          have HA2 : Hid (M.allOf ⟨o0, o1, o2, o3, o4, o5, o6, o7, o8, o9, kk⟩ x (l.take (j + 1)) = M.allOf ⟨o0, o1, o2, o3, o4, o5, o6, o7, o8, o9, kk⟩ x (l.take j) ++ [(o5, (x : Int), x2)]) := by
                            unfold Hid
                            rw [HSa.out, show (M.inB ⟨o0, o1, o2, o3, o4, o5, o6, o7, o8, o9, kk⟩ (x0, x1, x2) && (x1 == o5)) = true by unfold M.inB; simp [e0, hE, e5]]
                            simp
                          have HO2 : Hid (M.ownOf ⟨o0, o1, o2, o3, o4, o5, o6, o7, o8, o9, kk⟩ x (l.take (j + 1)) = M.ownOf ⟨o0, o1, o2, o3, o4, o5, o6, o7, o8, o9, kk⟩ x (l.take j) ++ [(x1, (x : Int), x2)]) := by
                            unfold Hid
                            rw [HSo.out, show (M.inB ⟨o0, o1, o2, o3, o4, o5, o6, o7, o8, o9, kk⟩ (x0, x1, x2) && !(blt x1 o5)) = true by unfold M.inB; simp [e0, hE, h2]]
                            simp
                          have HS9 := HS.out
                          clear p0 p1 p2 q4 q5 HS
                          go_wp2_with fail
                          go_roundw
                          case rel => exact ⟨j + 1, by omega, by go_num, by rw [HA2.out, HO2.out]; rw [← List.append_assoc]; exact HS9, hbr⟩
                          case measure => simp [intOf]; omega
                      | false =>
                        go_wp2_with fail
                        go_quiet (fail)
                        have hbq := Lib.hid (below_next hbr.out (below_drewN w6 nq))
                        have HSq := Lib.hid (HS.out.below (below_drewN w6 nq))
                        clear hbr HS p0 p1 p2 q4 q5
                        generalize w6.drewN nq = w7 at *
                        have hbr := hbq
                        have HS := HSq
                        clear hbq HSq
                        obtain ⟨p0, p1, p2⟩ := HCc.out w7 hbr.out
                        obtain ⟨-, -, -, -, q4, q5, -⟩ := HE.out.at hbr.out
                        simp only [] at q4 q5
                        cases h2 : blt x1 o5 with
                        | true =>
                          have h2' : Op.bytesLess x1 o5 = true := h2
                          go_wp2_with fail
                          go_quiet (fail)
                          have hbq := Lib.hid (below_next hbr.out (below_drewN w7 nq))
                          have HSq := Lib.hid (HS.out.below (below_drewN w7 nq))
                          clear hbr HS p0 p1 p2 q4 q5
                          generalize w7.drewN nq = w8 at *
                          have hbr := hbq
                          have HS := HSq
                          clear hbq HSq
                          obtain ⟨p0, p1, p2⟩ := HCc.out w8 hbr.out
                          obtain ⟨-, -, -, -, q4, q5, -⟩ := HE.out.at hbr.out
                          simp only [] at q4 q5
                          have HA2 : Hid (M.allOf ⟨o0, o1, o2, o3, o4, o5, o6, o7, o8, o9, kk⟩ x (l.take (j + 1)) = M.allOf ⟨o0, o1, o2, o3, o4, o5, o6, o7, o8, o9, kk⟩ x (l.take j)) := by
                            unfold Hid
                            rw [HSa.out, show (M.inB ⟨o0, o1, o2, o3, o4, o5, o6, o7, o8, o9, kk⟩ (x0, x1, x2) && (x1 == o5)) = false by unfold M.inB; simp [e5]]
                            simp
                          have HO2 : Hid (M.ownOf ⟨o0, o1, o2, o3, o4, o5, o6, o7, o8, o9, kk⟩ x (l.take (j + 1)) = M.ownOf ⟨o0, o1, o2, o3, o4, o5, o6, o7, o8, o9, kk⟩ x (l.take j)) := by
                            unfold Hid
                            rw [HSo.out, show (M.inB ⟨o0, o1, o2, o3, o4, o5, o6, o7, o8, o9, kk⟩ (x0, x1, x2) && !(blt x1 o5)) = false by unfold M.inB; simp [e0, hE, h2]]
                            simp
                          have HS9 := HS.out
                          clear p0 p1 p2 q4 q5 HS
                          go_wp2_with fail
                          go_roundw
                          case rel => exact ⟨j + 1, by omega, by go_num, by rw [HA2.out, HO2.out]; exact HS9, hbr⟩
                          case measure => simp [intOf]; omega
                        | false =>
                          have h2' : Op.bytesLess x1 o5 = false := h2
                          go_wp2_with fail
                          go_quiet (fail)
                          have hbq := Lib.hid (below_next hbr.out (below_drewN w7 nq))
                          have HSq := Lib.hid (HS.out.below (below_drewN w7 nq))
                          clear hbr HS p0 p1 p2 q4 q5
                          generalize w7.drewN nq = w8 at *
                          have hbr := hbq
                          have HS := HSq
                          clear hbq HSq
                          obtain ⟨p0, p1, p2⟩ := HCc.out w8 hbr.out
                          obtain ⟨-, -, -, -, q4, q5, -⟩ := HE.out.at hbr.out
                          simp only [] at q4 q5
                          go_wp2_with fail
                          refine Two.Ph.wp_region_mix3 Two.Ph.eq_grow Two.Ph.any_grow (fun _ _ _ => trivial) [13, 14] [(0, 0), (1, 0), (2, 0), (3, 0), (4, 0), (5, 2), (6, 2), (7, 0), (8, 0), (9, 0), (10, 0), (11, 2), (12, 2), (13, 1), (14, 1), (15, 0)] (by kernel_rfl) (by kernel_rfl) ?_
                          have hbd := Lib.hid (below_next hbr.out (below_drewN w8 1))
                          have HSd := Lib.hid (HS.out.below (below_drewN w8 1))
                          clear hbr HS p0 p1 p2 q4 q5
                          have hgd : w8.drewN 1 = w8.drew := rfl
                          rw [hgd] at hbd HSd
                          clear hgd
                          generalize w8.drew = wd at *
                          obtain ⟨p0, p1, p2⟩ := HCc.out wd hbd.out
                          obtain ⟨-, -, -, -, q4, q5, -⟩ := HE.out.at hbd.out
                          simp only [] at q4 q5
                          repeat ((first | refine Two.Ph.mix3_soft rfl (fun K hK => ?_) | refine Two.Ph.mix3_soon rfl (fun K hK => ?_)); go_simp; (first | (refine hK _ ?_; clear hK K) | (apply Exists.intro; refine ⟨fun z => ?_, hK _ ?_⟩; (first | done); clear hK K)))
                          clear p0 p1 p2 q4 q5
                          refine Two.Ph.mix3_loud rfl (fun K hK => ?_)
                          go_simp
                          refine hK _ _ ?_
                          clear hK K
                          have hba := Lib.hid (hbd.out.alloc hbd.out.size (.cells #[.string (str x1), .int .i64 x, .string (str x2)] 100))
                          have HSa := Lib.hid (HSd.out.below ((Below.refl wd.heap.size wd).alloc (Nat.le_refl _) (.cells #[.string (str x1), .int .i64 x, .string (str x2)] 100)))
                          have HSr : Hid (Sl (wd.alloc (.cells #[.string (str x1), .int .i64 x, .string (str x2)] 100)) 3 1 (.slice (some ⟨wd.heap.size, 0, none⟩) 1 1) (RW.cells [(x1, (x : Int), x2)])) := Sl.lit wd 100 3 1 #[.string (str x1), .int .i64 x, .string (str x2)] (0, 0) rfl (by decide)
                          clear hbd HSd
                          repeat ((first | refine Two.Ph.mix3_soft rfl (fun K hK => ?_) | refine Two.Ph.mix3_soon rfl (fun K hK => ?_)); go_simp; (first | (refine hK _ ?_; clear hK K) | (apply Exists.intro; refine ⟨fun z => ?_, hK _ ?_⟩; (first | done); clear hK K)))
                          refine Two.Ph.mix3_loud rfl (fun K hK => ?_)
                          refine ite_yes rfl ?_
                          rintro ⟨_, rfl⟩
                          refine hOper_append_st _ _ 40 rfl w2.heap.size 100 _ 3 40 Tryd.underlying40 infoRw rfl (by decide) _ _ _ rfl HSa.out.o10 _ 1 (RW.cells [(x1, (x : Int), x2)]) rfl HSr.out (rw_oneCell _) (by unfold maxLen; (try simp only [List.length_append]); omega) (by (try simp only [List.length_append]); omega) hba.out.size ?_
                          intro v10n wn hown hgrow hsame
                          have HS := Lib.hid (HSa.out.app10 (new := [(x1, (x : Int), x2)]) hgrow (by
                            have := hown
                            rw [← RW.cells_append] at this
                            rw [List.length_append (bs := [(x1, (x : Int), x2)])]
                            exact this) hsame)
                          have hbr : Hid (Below w2.heap.size w2 wn) := hba.out.grown hgrow hba.out.size (ownBlock_ge HSa.out.o10)
                          refine ⟨trivial, hK _ _ ?_⟩
                          clear hK K hown hgrow hsame HSa hba HSr
                          repeat ((first | refine Two.Ph.mix3_soft rfl (fun K hK => ?_) | refine Two.Ph.mix3_soon rfl (fun K hK => ?_)); go_simp; (first | (refine hK _ ?_; clear hK K) | (apply Exists.intro; refine ⟨fun z => ?_, hK _ ?_⟩; (first | done); clear hK K)))
                          refine Two.Ph.mix3_done fun w' h => ?_
                          subst h
                          obtain ⟨p0, p1, p2⟩ := HCc.out wn hbr.out
                          obtain ⟨-, -, -, -, q4, q5, -⟩ := HE.out.at hbr.out
                          simp only [] at q4 q5
                          have HA2 : Hid (M.allOf ⟨o0, o1, o2, o3, o4, o5, o6, o7, o8, o9, kk⟩ x (l.take (j + 1)) = M.allOf ⟨o0, o1, o2, o3, o4, o5, o6, o7, o8, o9, kk⟩ x (l.take j)) := by
                            unfold Hid
                            rw [HSa.out, show (M.inB ⟨o0, o1, o2, o3, o4, o5, o6, o7, o8, o9, kk⟩ (x0, x1, x2) && (x1 == o5)) = false by unfold M.inB; simp [e5]]
                            simp
                          have HO2 : Hid (M.ownOf ⟨o0, o1, o2, o3, o4, o5, o6, o7, o8, o9, kk⟩ x (l.take (j + 1)) = M.ownOf ⟨o0, o1, o2, o3, o4, o5, o6, o7, o8, o9, kk⟩ x (l.take j) ++ [(x1, (x : Int), x2)]) := by
                            unfold Hid
                            rw [HSo.out, show (M.inB ⟨o0, o1, o2, o3, o4, o5, o6, o7, o8, o9, kk⟩ (x0, x1, x2) && !(blt x1 o5)) = true by unfold M.inB; simp [e0, hE, h2]]
                            simp
                          have HS9 := HS.out
                          clear p0 p1 p2 q4 q5 HS
                          go_wp2_with fail
                          go_roundw
                          case rel => exact ⟨j + 1, by omega, by go_num, by rw [HA2.out, HO2.out]; exact HS9, hbr⟩
                          case measure => simp [intOf]; omega
                  | false =>
                    go_wp2_with fail
                    go_quiet (fail)
                    have hbq := Lib.hid (below_next hbr.out (below_drewN wr nq))
                    have HSq := Lib.hid (HS.out.below (below_drewN wr nq))
                    clear hbr HS p0 p1 p2 q4 q5
                    generalize wr.drewN nq = w6 at *
                    have hbr := hbq
                    have HS := HSq
                    clear hbq HSq
                    obtain ⟨p0, p1, p2⟩ := HCc.out w6 hbr.out
                    obtain ⟨-, -, -, -, q4, q5, -⟩ := HE.out.at hbr.out
                    simp only [] at q4 q5
                    have HA2 : Hid (M.allOf ⟨o0, o1, o2, o3, o4, o5, o6, o7, o8, o9, kk⟩ x (l.take (j + 1)) = M.allOf ⟨o0, o1, o2, o3, o4, o5, o6, o7, o8, o9, kk⟩ x (l.take j)) := by
                      unfold Hid
                      rw [HSa.out, show (M.inB ⟨o0, o1, o2, o3, o4, o5, o6, o7, o8, o9, kk⟩ (x0, x1, x2) && (x1 == o5)) = false by unfold M.inB; simp [e0]]
                      simp
                    have HO2 : Hid (M.ownOf ⟨o0, o1, o2, o3, o4, o5, o6, o7, o8, o9, kk⟩ x (l.take (j + 1)) = M.ownOf ⟨o0, o1, o2, o3, o4, o5, o6, o7, o8, o9, kk⟩ x (l.take j)) := by
                      unfold Hid
                      rw [HSo.out, show (M.inB ⟨o0, o1, o2, o3, o4, o5, o6, o7, o8, o9, kk⟩ (x0, x1, x2) && !(blt x1 o5)) = false by unfold M.inB; simp [e0]]
                      simp
                    have HS9 := HS.out
                    clear p0 p1 p2 q4 q5 HS
                    go_wp2_with fail
                    go_roundw
                    case rel => exact ⟨j + 1, by omega, by go_num, by rw [HA2.out, HO2.out]; exact HS9, hbr⟩
                    case measure => simp [intOf]; omega
                · have hjI : ¬ ((j : Int) < (N : Int)) := by omega
                  obtain rfl : j = N := by omega
                  rw [List.take_of_length_le (Nat.le_of_eq HLn.out)] at HS
                  have HST2 : Hid (M.rfold us m ⟨o0, o1, o2, o3, o4, o5, o6, o7, o8, o9, kk⟩ (x + 1) = ⟨decide (0 ≤ f), rows ++ [M.ownOf ⟨o0, o1, o2, o3, o4, o5, o6, o7, o8, o9, kk⟩ x l], all ++ M.allOf ⟨o0, o1, o2, o3, o4, o5, o6, o7, o8, o9, kk⟩ x l⟩) := HSTt.out
                  obtain ⟨vo, hvo⟩ : ∃ vo, vo = u10 := ⟨_, rfl⟩
                  rw [← hvo] at HS ⊢
                  clear hvo
                  obtain ⟨ao, co, rfl, -⟩ := (Sl.of_owns HS.out.o10).shape
                  have hba := Lib.hid (hbr.out.alloc hbr.out.size (.cells #[.slice ao (M.ownOf ⟨o0, o1, o2, o3, o4, o5, o6, o7, o8, o9, kk⟩ x l).length co] 40))
                  have HSa := Lib.hid (HS.out.below ((Below.refl wr.heap.size wr).alloc (Nat.le_refl _) (.cells #[.slice ao (M.ownOf ⟨o0, o1, o2, o3, o4, o5, o6, o7, o8, o9, kk⟩ x l).length co] 40)))
                  have HSr : Hid (Sl (wr.alloc (.cells #[.slice ao (M.ownOf ⟨o0, o1, o2, o3, o4, o5, o6, o7, o8, o9, kk⟩ x l).length co] 40)) 1 1 (.slice (some ⟨wr.heap.size, 0, none⟩) 1 1) [.slice ao (M.ownOf ⟨o0, o1, o2, o3, o4, o5, o6, o7, o8, o9, kk⟩ x l).length co]) := Sl.lit wr 40 1 1 #[.slice ao (M.ownOf ⟨o0, o1, o2, o3, o4, o5, o6, o7, o8, o9, kk⟩ x l).length co] (0, 0) rfl (by decide)
                  clear HS hbr HSTt
                  go_wp2_with (at_builtin; go_must (refine wpList_append_st rfl _ _ 94 rfl w2.heap.size 40 _ 1 24 Tryd.underlying94 infoVs rfl (by decide) _ _ _ rfl HSa.out.o6 _ 1 [.slice ao (M.ownOf ⟨o0, o1, o2, o3, o4, o5, o6, o7, o8, o9, kk⟩ x l).length co] rfl HSr.out (by intro u hu; rw [List.mem_singleton] at hu; subst hu; rfl) (by unfold maxLen; omega) (by omega) hba.out.size ?_))
                  intro v6n wn hown hgrow hsame
                  have HS9 := Lib.hid (HSa.out.app6 hgrow hown (by simpa using hsame))
                  have hb9 : Hid (Below w2.heap.size w2 wn) := hba.out.grown hgrow hba.out.size (ownBlock_ge HSa.out.o6)
                  clear hown hgrow hsame HSa hba HSr
                  go_wp2_with fail
                  go_roundw
                  case rel => exact ⟨x + 1, ul ++ [.slice ao (M.ownOf ⟨o0, o1, o2, o3, o4, o5, o6, o7, o8, o9, kk⟩ x l).length co], by omega, by go_num, by rw [HST2.out], by rw [HST2.out]; exact HS9.out, hb9⟩
                  case measure => simp [intOf]; omega
        · have hxI : ¬ ((x : Int) < (n : Int)) := by omega
          obtain rfl : x = n := by omega
          have hfl := HFL.out x (Nat.le_refl _)
          have hun := fun C hC => M.union_eq (rows := (M.rfold us m ⟨o0, o1, o2, o3, o4, o5, o6, o7, o8, o9, kk⟩ x).rows) (C := C) hC
          obtain ⟨st0, hst0⟩ : ∃ s, M.rfold us m ⟨o0, o1, o2, o3, o4, o5, o6, o7, o8, o9, kk⟩ x = s := ⟨_, rfl⟩
          rw [hst0] at HS HRD hfl hun ⊢
          clear hst0
          obtain ⟨sm, rows, all⟩ := st0
          simp only [] at HS HRD hfl hun ⊢
          have HUN := Lib.hid hun
          have c4 := ((HE.out.m.b.below hbr.out).cells).c4
          clear hun
          cases sm with
          | false =>
            have HRES : Hid (M.read us m ⟨o0, o1, o2, o3, o4, o5, o6, o7, o8, o9, kk⟩ = M.bad 32) := by unfold Hid; rw [HRD.out]; rfl
            clear HS
            go_wp2_with fail
            clear c4
            have st := Lib.hid (not_any 32 wr)
            refine st.out.mono ?_
            rintro e wn ⟨rfl, hx⟩
            have hbn := Lib.hid (below_next hbr.out hx)
            clear st hx hbr
            have hrb := HRb.out wn hbn.out
            obtain ⟨z0, z1, z2, z3, z4, z5, z6, z7⟩ := hrb.cells
            have y0 := hrb.go 0
            have y1 := hrb.go 1
            have y2 := hrb.go 2
            have y3 := hrb.go 3
            have y4 := hrb.go 4
            have y5 := hrb.go 5
            have y6 := hrb.go 6
            have y7 := hrb.go 7
            have hbw2 := Lib.hid (below_next HE.out.b hbn.out)
            clear hrb
            go_wp2_with fail
            refine bodyPost_ret (res_results rfl _ _ R 32 0 (.slice none 0 0) (.slice none 0 0) rfl ((HRb.out wn hbn.out).put 32 0 (.slice none 0 0) (.slice none 0 0))) rfl ?_
            have HF1 : Ending.returned (resv 32 0 (.slice none 0 0) (.slice none 0 0)) = Ending.returned (resv (M.read us m ⟨o0, o1, o2, o3, o4, o5, o6, o7, o8, o9, kk⟩).e (M.read us m ⟨o0, o1, o2, o3, o4, o5, o6, o7, o8, o9, kk⟩).n (.slice none 0 0) (.slice none 0 0)) := by rw [HRES.out] <;> rfl
            have HF2 : Rz w (rbw wn R 32 0 (.slice none 0 0) (.slice none 0 0)) (.slice none 0 0) (M.read us m ⟨o0, o1, o2, o3, o4, o5, o6, o7, o8, o9, kk⟩).rows := by rw [HRES.out]; exact Rz.nil _ _
            exact ⟨(.slice none 0 0), HF1, HF2, below_rbw hbw2.out (Nat.le_of_lt HR2.out) 32 0 (.slice none 0 0) (.slice none 0 0)⟩
          | true =>
            have HRD : Hid (M.read us m ⟨o0, o1, o2, o3, o4, o5, o6, o7, o8, o9, kk⟩ = if o0 = 10 then ⟨0, 0, M.union rows (M.most o9), []⟩ else if all.length = 0 then M.bad 33 else ⟨0, 0, all, []⟩) := by unfold Hid; rw [HRD.out]; rfl
            obtain ⟨p0, -, -, -, -, -, -, -, -, p9, -⟩ := HE.out.at hbr.out
            simp only [] at p0 p9
            by_cases h10 : o0 = 10
            · have d1 : (o0 == 10) = true := by simp [h10]
              have d2 : decide (o0 = 10) = true := by simp [h10]
              have HRES : Hid (M.read us m ⟨o0, o1, o2, o3, o4, o5, o6, o7, o8, o9, kk⟩ = ⟨0, 0, M.union rows (M.most o9), []⟩) := by unfold Hid; rw [HRD.out, if_pos h10]
              have st1 := Lib.hid (mmost_any o9 wr)
              have st2 := Lib.hid (munion_any u6 rows (M.most o9) wr HS.out.vs (by omega))
              clear HRD HS h10
              go_wp2_with fail
              refine st1.out.mono ?_
              rintro e w' ⟨rfl, rfl⟩
              clear st1 c4
              go_wp2_with fail
              refine st2.out.mono ?_
              rintro e wn ⟨vr, C, rfl, hC, hrz, hx⟩
              have hbn := Lib.hid (below_next hbr.out hx)
              obtain ⟨ar, cr, rfl, -⟩ := (hrz (fun _ => False) (fun k h => h.elim)).here.shape
              obtain ⟨q, hq⟩ : ∃ q, (C.take (S.upto (M.most o9) C.length)).length = q := ⟨_, rfl⟩
              rw [hq] at hrz ⊢
              clear hq
              have HRZ : Hid (Rz wr wn (.slice ar q cr) (M.union rows (M.most o9))) := by unfold Hid; rw [HUN.out C hC]; exact hrz
              have HRl2 : Hid (R < wr.heap.size) := Nat.lt_of_lt_of_le HRl.out hbr.out.size
              have HSz : Hid (w.heap.size ≤ wr.heap.size) := (below_next HE.out.b hbr.out).size
              clear st2 hx hbr hC hrz p0 p9
              have hrb := HRb.out wn hbn.out
              obtain ⟨z0, z1, z2, z3, z4, z5, z6, z7⟩ := hrb.cells
              have y0 := hrb.go 0
              have y1 := hrb.go 1
              have y2 := hrb.go 2
              have y3 := hrb.go 3
              have y4 := hrb.go 4
              have y5 := hrb.go 5
              have y6 := hrb.go 6
              have y7 := hrb.go 7
              have hbw2 := Lib.hid (below_next HE.out.b hbn.out)
              clear hrb
              go_wp2_with fail
              refine bodyPost_ret (res_results rfl _ _ R 0 0 (.slice ar q cr) (.slice none 0 0) rfl ((HRb.out wn hbn.out).put 0 0 (.slice ar q cr) (.slice none 0 0))) rfl ?_
              have HF1 : Ending.returned (resv 0 0 (.slice ar q cr) (.slice none 0 0)) = Ending.returned (resv (M.read us m ⟨o0, o1, o2, o3, o4, o5, o6, o7, o8, o9, kk⟩).e (M.read us m ⟨o0, o1, o2, o3, o4, o5, o6, o7, o8, o9, kk⟩).n (.slice ar q cr) (.slice none 0 0)) := by rw [HRES.out] <;> rfl
              have HF2 : Rz w (rbw wn R 0 0 (.slice ar q cr) (.slice none 0 0)) (.slice ar q cr) (M.read us m ⟨o0, o1, o2, o3, o4, o5, o6, o7, o8, o9, kk⟩).rows := by rw [HRES.out]; exact Rz.res HRZ.out HRl2.out HSz.out 0 0 (.slice ar q cr) (.slice none 0 0)
              exact ⟨(.slice ar q cr), HF1, HF2, below_rbw hbw2.out (Nat.le_of_lt HR2.out) 0 0 (.slice ar q cr) (.slice none 0 0)⟩
            · have d1 : (o0 == 10) = false := by simp [h10]
              have d2 : decide (o0 = 10) = false := by simp [h10]
              have HRD : Hid (M.read us m ⟨o0, o1, o2, o3, o4, o5, o6, o7, o8, o9, kk⟩ = if all.length = 0 then M.bad 33 else ⟨0, 0, all, []⟩) := by unfold Hid; rw [HRD.out, if_neg h10]
              clear h10
              obtain ⟨al, cl, hal, -⟩ := (Sl.of_owns HS.out.o7).shape
              obtain ⟨va, hva⟩ : ∃ va, va = u7 := ⟨_, rfl⟩
              rw [← hva] at HS hal ⊢
              clear hva
              subst hal
              have HRZ : Hid (∀ e n vr vc, Rz w (rbw wr R e n vr vc) (.slice al all.length cl) all) := fun e n vr vc => Rz.own HS.out.o7 HRl.out HE.out.b.size e n vr vc
              obtain ⟨N, hN⟩ : ∃ N, all.length = N := ⟨_, rfl⟩
              rw [hN] at HRD HRZ hfl ⊢
              clear HS hN
              by_cases h0 : N = 0
              · have d3 : ((N : Int) == 0) = true := by simp [h0]
                have HRES : Hid (M.read us m ⟨o0, o1, o2, o3, o4, o5, o6, o7, o8, o9, kk⟩ = M.bad 33) := by unfold Hid; rw [HRD.out, if_pos h0]
                subst h0
                clear HRD HRZ
                go_wp2_with fail
                clear c4 p0 p9
                have st := Lib.hid (not_any 33 wr)
                refine st.out.mono ?_
                rintro e wn ⟨rfl, hx⟩
                have hbn := Lib.hid (below_next hbr.out hx)
                clear st hx hbr
                have hrb := HRb.out wn hbn.out
                obtain ⟨z0, z1, z2, z3, z4, z5, z6, z7⟩ := hrb.cells
                have y0 := hrb.go 0
                have y1 := hrb.go 1
                have y2 := hrb.go 2
                have y3 := hrb.go 3
                have y4 := hrb.go 4
                have y5 := hrb.go 5
                have y6 := hrb.go 6
                have y7 := hrb.go 7
                have hbw2 := Lib.hid (below_next HE.out.b hbn.out)
                clear hrb
                go_wp2_with fail
                refine bodyPost_ret (res_results rfl _ _ R 33 0 (.slice none 0 0) (.slice none 0 0) rfl ((HRb.out wn hbn.out).put 33 0 (.slice none 0 0) (.slice none 0 0))) rfl ?_
                have HF1 : Ending.returned (resv 33 0 (.slice none 0 0) (.slice none 0 0)) = Ending.returned (resv (M.read us m ⟨o0, o1, o2, o3, o4, o5, o6, o7, o8, o9, kk⟩).e (M.read us m ⟨o0, o1, o2, o3, o4, o5, o6, o7, o8, o9, kk⟩).n (.slice none 0 0) (.slice none 0 0)) := by rw [HRES.out] <;> rfl
                have HF2 : Rz w (rbw wn R 33 0 (.slice none 0 0) (.slice none 0 0)) (.slice none 0 0) (M.read us m ⟨o0, o1, o2, o3, o4, o5, o6, o7, o8, o9, kk⟩).rows := by rw [HRES.out]; exact Rz.nil _ _
                exact ⟨(.slice none 0 0), HF1, HF2, below_rbw hbw2.out (Nat.le_of_lt HR2.out) 33 0 (.slice none 0 0) (.slice none 0 0)⟩
              · have d3 : ((N : Int) == 0) = false := by rw [beq_eq_false_iff_ne]; omega
                have HRES : Hid (M.read us m ⟨o0, o1, o2, o3, o4, o5, o6, o7, o8, o9, kk⟩ = ⟨0, 0, all, []⟩) := by unfold Hid; rw [HRD.out, if_neg h0]
                have hpos : 0 < N := by omega
                clear HRD h0
                have hrb := HRb.out wr hbr.out
                obtain ⟨z0, z1, z2, z3, z4, z5, z6, z7⟩ := hrb.cells
                have y0 := hrb.go 0
                have y1 := hrb.go 1
                have y2 := hrb.go 2
                have y3 := hrb.go 3
                have y4 := hrb.go 4
                have y5 := hrb.go 5
                have y6 := hrb.go 6
                have y7 := hrb.go 7
                have hbw2 := Lib.hid (below_next HE.out.b hbr.out)
                clear hrb
                go_wp2_with fail
                refine bodyPost_ret (res_results rfl _ _ R 0 0 (.slice al N cl) (.slice none 0 0) rfl ((HRb.out wr hbr.out).put 0 0 (.slice al N cl) (.slice none 0 0))) rfl ?_
                have HF1 : Ending.returned (resv 0 0 (.slice al N cl) (.slice none 0 0)) = Ending.returned (resv (M.read us m ⟨o0, o1, o2, o3, o4, o5, o6, o7, o8, o9, kk⟩).e (M.read us m ⟨o0, o1, o2, o3, o4, o5, o6, o7, o8, o9, kk⟩).n (.slice al N cl) (.slice none 0 0)) := by rw [HRES.out] <;> rfl
                have HF2 : Rz w (rbw wr R 0 0 (.slice al N cl) (.slice none 0 0)) (.slice al N cl) (M.read us m ⟨o0, o1, o2, o3, o4, o5, o6, o7, o8, o9, kk⟩).rows := by rw [HRES.out]; exact HRZ.out 0 0 (.slice al N cl) (.slice none 0 0)
                exact ⟨(.slice al N cl), HF1, HF2, below_rbw hbw2.out (Nat.le_of_lt HR2.out) 0 0 (.slice al N cl) (.slice none 0 0)⟩
end Go.Proofs.YtmapmeacjpoaoaaDoor
