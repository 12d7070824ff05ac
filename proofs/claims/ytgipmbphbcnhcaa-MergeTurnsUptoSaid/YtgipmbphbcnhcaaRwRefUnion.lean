/- What the reference's Union returns: the rows in order, so many at most. -/
import Derived.Test.YtgipmbphbcnhcaaRwUnion
import Derived.Test.YtgipmbphbcnhcaaRwLess
namespace Go.Proofs.Ytgipmbphbcnhcaa
open Go Go.RowKit

theorem rs_take {w : World} {ao : Option Addr} {n cap : Nat} {l : List Rw} (h : Rs w (.slice ao n cap) l) (hn : l.length = n) (kl : IntKind) (k : Nat) (hk : k ≤ n) :
    ∃ v', Sl w 3 k v' (RW.cells (l.take k)) ∧ ∀ W, (Instr.slice 25 (.slice ao n cap) none (some (.int kl k)) none).run Try.prog W = .ok v' W := by
  obtain ⟨v', h1, h2⟩ := run_take (P := Try.prog) (t := 25) Try.underlying25 infoRw (h.sl hn) kl k hk
  rw [RW.cells_take] at h1
  exact ⟨v', h1, h2⟩
theorem rs_drop {w : World} {ao : Option Addr} {n cap : Nat} {l : List Rw} (h : Rs w (.slice ao n cap) l) (hn : l.length = n) (kl : IntKind) (k : Nat) (hk : k ≤ n) :
    ∃ v', Sl w 3 (n - k) v' (RW.cells (l.drop k)) ∧ ∀ W, (Instr.slice 25 (.slice ao n cap) (some (.int kl k)) none none).run Try.prog W = .ok v' W := by
  obtain ⟨v', h1, h2⟩ := run_drop (P := Try.prog) (t := 25) Try.underlying25 infoRw (h.sl hn) kl k hk
  rw [RW.cells_drop] at h1
  exact ⟨v', h1, h2⟩
/-- Where row k lies, in every later world. -/
theorem Rs.at {w : World} {ao : Option Addr} {n cap : Nat} {l : List Rw} (h : Rs w (.slice ao n cap) l) {k : Nat} (hk : k < l.length) :
    ∃ b off, ao = some ⟨b, off, none⟩ ∧ ∀ W, Below w.heap.size w W → W.cell? ⟨b, off + k * 3, none⟩ = some (.string (str l[k].1)) ∧ W.cell? ⟨b, off + k * 3 + 1, none⟩ = some (.int .i64 l[k].2.1) ∧ W.cell? ⟨b, off + k * 3 + 2, none⟩ = some (.string (str l[k].2.2)) := by
  obtain ⟨b, off, rfl, -⟩ := Three.Ss.at h hk
  refine ⟨b, off, rfl, fun W hW => ?_⟩
  obtain ⟨b', off', e, hc⟩ := Three.Ss.at (Three.Ss.below h hW) hk
  obtain ⟨rfl, rfl⟩ : b = b' ∧ off = off' := by simpa using e
  exact hc k hk
theorem S.ins_at {A C : List Rw} {x : Rw} (j : Nat) (hs : S.IsSort A C) (h2 : ∀ y ∈ C.drop j, S.rlt x y = true) (h1 : ∀ q (_ : q + 1 = j) (h : q < C.length), S.rlt x C[q] = false) (hj : j ≤ C.length) : S.IsSort (A ++ [x]) (C.take j ++ x :: C.drop j) := by
  refine S.ins_step (by rw [List.take_append_drop]; exact hs) h2 fun D y hD => ?_
  have hl : D.length + 1 = j := by
    have := congrArg List.length hD
    rw [List.length_take, List.length_append] at this
    simp at this
    omega
  have h := h1 D.length hl (by omega)
  have e : C[D.length]'(by omega) = y := by
    have h3 : (C.take j)[D.length]'(by rw [List.length_take]; omega) = y := by
      simp only [hD]
      rw [List.getElem_append_right (Nat.le_refl _)]
      simp
    rw [← h3, List.getElem_take]
  rw [e] at h
  exact h
theorem S.drop_all {C : List Rw} {x : Rw} {q : Nat} (h : q < C.length) (h1 : S.rlt x C[q] = true) (h2 : ∀ y ∈ C.drop (q + 1), S.rlt x y = true) : ∀ y ∈ C.drop q, S.rlt x y = true := by
  rw [List.drop_eq_getElem_cons h]
  intro y hy
  rcases List.mem_cons.1 hy with rfl | hy
  · exact h1
  · exact h2 y hy

set_option maxRecDepth 4000 in
set_option maxHeartbeats 8000000 in
theorem refUnion_any (v : Value) (rows : List (List Rw)) (most : Int) (w : World) (h : Vs w v rows) (hl : rows.flatten.length ≤ 100000) :
    Calls Try.prog 12 #[v, .int .i64 most] w fun e w' => ∃ v' C, e = .returned v' ∧ S.IsSort rows.flatten C ∧ Rs w' v' (C.take (S.upto most C.length)) ∧ Below w.heap.size w w' := by
  obtain ⟨ao, cap, rfl, -⟩ := h.shape
  have hbig := h.len
  have HV := Lib.hid h
  clear h
  obtain ⟨n, hn⟩ : ∃ n, rows.length = n := ⟨_, rfl⟩
  rw [hn] at HV hbig ⊢
  have HN := Lib.hid hn
  clear hn
  go_enter Try.func12, Try.ntmps12
  go_wp2_with fail
  go_loopw [5, 6] (fun t u wr => ∃ (i : Nat) (C : List Rw), i ≤ n ∧ u = .int .i64 i ∧ Hid (Rs wr t C) ∧ Hid (S.IsSort (rows.take i).flatten C) ∧ Hid (Below w.heap.size w wr)) (fun _ u _ => n - (intOf u).toNat)
  case atStart => exact ⟨0, [], by omega, rfl, Three.Ss.nil _, S.IsSort.self (by exact List.Pairwise.nil), Below.refl _ _⟩
  case round =>
    obtain ⟨i, C0, hi, rfl, HR, HI, hbr⟩ := hrel
    by_cases hin : i < n
    · have hin' : (i : Int) < (n : Int) := by omega
      obtain ⟨b, off, x, rfl, hx, hc⟩ := HV.out.at (j := i) (by rw [HN.out]; exact hin)
      obtain ⟨px, cx, rfl, -⟩ := hx.shape
      have hfl : (rows.take i).flatten.length + (rows[i]'(by rw [HN.out]; exact hin)).length ≤ 100000 := Nat.le_trans (S.flat_len _) hl
      have HST : Hid ((rows.take (i + 1)).flatten = (rows.take i).flatten ++ (rows[i]'(by rw [HN.out]; exact hin))) := S.flat_step _
      obtain ⟨l, hll⟩ : ∃ l, (rows[i]'(by rw [HN.out]; exact hin)) = l := ⟨_, rfl⟩
      rw [hll] at hx hc hfl HST
      obtain ⟨m, hm⟩ : ∃ m, l.length = m := ⟨_, rfl⟩
      rw [hm] at hx hc hfl
      have HM := Lib.hid hm
      have HX := Lib.hid hx
      have HCell := Lib.hid hc
      obtain ⟨A, hA⟩ : ∃ A, (rows.take i).flatten = A := ⟨_, rfl⟩
      rw [hA] at hfl HST HI
      obtain ⟨N, hNA⟩ : ∃ N, A.length = N := ⟨_, rfl⟩
      rw [hNA] at hfl
      have HNA := Lib.hid hNA
      clear hll hm hx hc hA hNA
      go_wp2_with fail
      go_loopw [5, 7] (fun t u wr => ∃ (k : Nat) (C : List Rw), k ≤ m ∧ u = .int .i64 k ∧ Hid (Rs wr t C) ∧ Hid (S.IsSort (A ++ l.take k) C) ∧ Hid (Below w.heap.size w wr)) (fun _ u _ => m - (intOf u).toNat)
      case atStart => exact ⟨0, C0, by omega, rfl, HR, by simpa using HI, hbr⟩
      case round =>
        clear HR HI hbr
        obtain ⟨k, C, hk, rfl, HR, HI, hbr⟩ := hrel
        have cell := HCell.out wr hbr.out
        by_cases hkm : k < m
        · have hkm' : (k : Int) < (m : Int) := by omega
          have hk0 : (0 : Int) ≤ (k : Int) := by omega
          have hin0 : (0 : Int) ≤ (i : Int) := by omega
          obtain ⟨b2, o2, rfl, hlk⟩ := HX.out.at (k := k) (by rw [HM.out]; exact hkm)
          have HTK : Hid (A ++ l.take (k + 1) = (A ++ l.take k) ++ [l[k]'(by rw [HM.out]; exact hkm)]) := by
            unfold Hid
            rw [List.take_succ_eq_append_getElem (by rw [HM.out]; exact hkm), List.append_assoc]
          obtain ⟨x, hx⟩ : ∃ x, (l[k]'(by rw [HM.out]; exact hkm)) = x := ⟨_, rfl⟩
          rw [hx] at hlk HTK
          have HLk := Lib.hid hlk
          clear hx hlk
          obtain ⟨a5, c5, rfl, -⟩ := HR.out.shape
          have hcl : N + k = C.length := by
            have h1 := HI.out.len
            rw [List.length_append, HNA.out, List.length_take, HM.out, Nat.min_eq_left hk] at h1
            exact h1.symm
          obtain ⟨c, hc⟩ : ∃ c, C.length = c := ⟨_, rfl⟩
          rw [hc] at hcl HR ⊢
          have HCc := Lib.hid hc
          have HIns : Hid (∀ j, (∀ y ∈ C.drop j, S.rlt x y = true) → (∀ q (_ : q + 1 = j) (h : q < C.length), S.rlt x C[q] = false) → j ≤ c → S.IsSort (A ++ l.take (k + 1)) (C.take j ++ x :: C.drop j)) := fun j h2 h1 hj => by rw [HTK.out]; exact S.ins_at j HI.out h2 h1 (by omega)
          clear hc HTK HI
          obtain ⟨x0, x1, x2⟩ := x
          go_wp2_with fail
          go_loopw [8] (fun u wr => ∃ j : Nat, j ≤ c ∧ u = .int .i64 j ∧ Hid (∀ y ∈ C.drop j, S.rlt (x0, x1, x2) y = true) ∧ Hid (Rs wr (.slice a5 c c5) C) ∧ Hid (Below w.heap.size w wr)) (fun u _ => (intOf u).toNat)
          case atStart => exact ⟨c, Nat.le_refl _, rfl, (fun y hy => by rw [List.drop_of_length_le (Nat.le_of_eq HCc.out)] at hy; cases hy), HR, hbr⟩
          case round =>
            clear HR hbr cell
            obtain ⟨j, hjc, rfl, HD, HR, hbr⟩ := hrel
            by_cases hj0 : 0 < j
            · obtain ⟨q, rfl⟩ : ∃ q, j = q + 1 := ⟨j - 1, by omega⟩
              obtain ⟨b3, o3, rfl, hlq⟩ := HR.out.at (k := q) (by rw [HCc.out]; omega)
              have HDA : Hid (S.rlt (x0, x1, x2) (C[q]'(by rw [HCc.out]; omega)) = true → ∀ y ∈ C.drop q, S.rlt (x0, x1, x2) y = true) := fun h => S.drop_all (by rw [HCc.out]; omega) h HD.out
              have HIN : Hid (S.rlt (x0, x1, x2) (C[q]'(by rw [HCc.out]; omega)) = false → S.IsSort (A ++ l.take (k + 1)) (C.take (q + 1) ++ (x0, x1, x2) :: C.drop (q + 1))) := fun h => HIns.out (q + 1) HD.out (fun q' hq' h' => by (obtain rfl : q' = q := by omega); exact h) hjc
              obtain ⟨y, hy⟩ : ∃ y, (C[q]'(by rw [HCc.out]; omega)) = y := ⟨_, rfl⟩
              rw [hy] at hlq HDA HIN
              have HLq := Lib.hid hlq
              clear hy hlq HD
              obtain ⟨y0, y1, y2⟩ := y
              have HC : Hid (∀ W, Calls Try.prog 10 #[.agg #[.string (str x0), .int .i64 x1, .string (str x2)], .agg #[.string (str y0), .int .i64 y1, .string (str y2)]] W fun e w' => e = .returned (.bool (S.rlt (x0, x1, x2) (y0, y1, y2))) ∧ Ext W w') := fun W => refLess_any (x0, x1, x2) (y0, y1, y2) W
              obtain ⟨j, hj⟩ : ∃ j, q + 1 = j := ⟨_, rfl⟩
              rw [hj] at hjc hj0 HIN ⊢
              have i1 : (q : Int) < (c : Int) := by omega
              have i2 : (0 : Int) ≤ (q : Int) := by omega
              have i3 : (0 : Int) < (j : Int) := by omega
              have i7 : IntKind.i64.wrap ((j : Int) - 1) = (q : Int) := by rw [IntKind.wrap_i64] <;> omega
              go_wp2_with fail
              refine wp_region_mix ext_grow [(0, false), (1, false), (2, false), (3, false), (4, false), (5, false), (6, false), (7, false), (8, false), (9, false), (10, false), (11, false), (12, false), (13, false), (14, false), (15, false), (16, false)] (by kernel_rfl) (by kernel_rfl) ?_
              have HR0 : Hid (Rs wr.drew (.slice (some ⟨b3, o3, none⟩) c c5) C) := HR.out
              have hbr1 : Hid (Below w.heap.size w wr.drew) := hbr.out.drew
              have HLq1 : Hid (∀ W, Below wr.drew.heap.size wr.drew W → W.cell? ⟨b3, o3 + q * 3, none⟩ = some (.string (str y0)) ∧ W.cell? ⟨b3, o3 + q * 3 + 1, none⟩ = some (.int .i64 y1) ∧ W.cell? ⟨b3, o3 + q * 3 + 2, none⟩ = some (.string (str y2))) := fun W hW => HLq.out W (below_next (below_drewN wr 1) hW)
              clear HR hbr HLq
              generalize wr.drew = w0 at *
              have g0 : ∀ x : Later w0, x.1.cell? ⟨b, off + i, none⟩ = some (.slice (some ⟨b2, o2, none⟩) m cx) := fun x => HCell.out x.1 (below_next hbr1.out x.2)
              have p0 : ∀ x : Later w0, x.1.cell? ⟨b2, o2 + k * 3, none⟩ = some (.string (str x0)) := fun x => (HLk.out x.1 (below_next hbr1.out x.2)).1
              have p1 : ∀ x : Later w0, x.1.cell? ⟨b2, o2 + k * 3 + 1, none⟩ = some (.int .i64 x1) := fun x => (HLk.out x.1 (below_next hbr1.out x.2)).2.1
              have p2 : ∀ x : Later w0, x.1.cell? ⟨b2, o2 + k * 3 + 2, none⟩ = some (.string (str x2)) := fun x => (HLk.out x.1 (below_next hbr1.out x.2)).2.2
              have q0 : ∀ x : Later w0, x.1.cell? ⟨b3, o3 + q * 3, none⟩ = some (.string (str y0)) := fun x => (HLq1.out x.1 x.2).1
              have q1 : ∀ x : Later w0, x.1.cell? ⟨b3, o3 + q * 3 + 1, none⟩ = some (.int .i64 y1) := fun x => (HLq1.out x.1 x.2).2.1
              have q2 : ∀ x : Later w0, x.1.cell? ⟨b3, o3 + q * 3 + 2, none⟩ = some (.string (str y2)) := fun x => (HLq1.out x.1 x.2).2.2
              cases hlt : S.rlt (x0, x1, x2) (y0, y1, y2) with
              | true =>
                have HD2 := Lib.hid (HDA.out hlt)
                rw [hlt] at HC
                clear hlt HDA HIN
                repeat (refine mix_soft rfl (fun K hK => ?_); go_simp; (first | (refine hK _ ?_; clear hK K) | (apply Exists.intro; refine ⟨fun x => ?_, hK _ ?_⟩; (first | (go_at_call 10; with_reducible exact HC.out _)); clear hK K)))
                clear p0 p1 p2 q0 q1 q2 g0
                refine mix_done fun w4 hb5 => ?_
                have HR4 := Lib.hid (Three.Ss.below HR0.out hb5)
                have hb4 := Lib.hid (below_next hbr1.out hb5)
                clear hb5 HR0 hbr1 HLq1 HC
                go_wp2_with fail
                go_roundw
                case rel => exact ⟨q, by omega, by go_num, HD2, HR4, hb4⟩
                case measure => simp [intOf]; omega
              | false =>
                have HINS := Lib.hid (HIN.out hlt)
                rw [hlt] at HC
                clear hlt HDA HIN
                repeat (refine mix_soft rfl (fun K hK => ?_); go_simp; (first | (refine hK _ ?_; clear hK K) | (apply Exists.intro; refine ⟨fun x => ?_, hK _ ?_⟩; (first | (go_at_call 10; with_reducible exact HC.out _)); clear hK K)))
                clear p0 p1 p2 q0 q1 q2 g0
                refine mix_done fun w4 hb5 => ?_
                have HR4 : Hid (Rs w4 (.slice (some ⟨b3, o3, none⟩) c c5) C) := Three.Ss.below HR0.out hb5
                have hb4 := Lib.hid (below_next hbr1.out hb5)
                clear hb5 HR0 hbr1 HLq1 HC
                obtain ⟨vt, HVt, hrt⟩ := rs_take HR4.out HCc.out .i64 j hjc
                obtain ⟨vd, HVd, hrd⟩ := rs_drop HR4.out HCc.out .i64 j hjc
                have HVT := Lib.hid HVt
                have HVD := Lib.hid HVd
                obtain ⟨G, hG⟩ : ∃ G, w4.heap.size = G := ⟨_, rfl⟩
                have HO0 := Lib.hid (World.ownsRow_nil w4 G 29 3)
                have HS0 : Hid (Sl w4 3 j vt (RW.cells (C.take j))) := HVt
                have hG4 : G ≤ w4.heap.size := Nat.le_of_eq hG.symm
                have HG := Lib.hid hG
                clear HR4 HVt HVd hG
                go_wp2_with (at_builtin; go_must (refine wpList_append_sl rfl _ _ 25 rfl G 29 _ 3 40 Try.underlying25 infoRw rfl (by decide) _ _ _ rfl HO0.out _ j (RW.cells (C.take j)) rfl HS0.out (rw_oneCell _) (by unfold maxLen; omega) (by omega) hG4 ?_))
                intro v5 w5 hown5 hgrow hnn
                clear hnn
                have HB5 : Hid (Below G w4 w5) := (Below.refl _ _).grown hgrow hG4 (ownBlock_ge HO0.out)
                have HO5 : Hid (w5.ownsRow G 29 3 v5 j (RW.cells (C.take j))) := by
                  unfold Hid
                  simpa using hown5
                clear hown5 hgrow HO0 HS0 hG4 hrt
                have hb5 : Hid (Below w.heap.size w w5) := below_next hb4.out (by rw [HG.out]; exact HB5.out)
                have hG5 : G ≤ w5.heap.size := by rw [← HG.out]; exact HB5.out.size
                have cell := HCell.out w5 hb5.out
                obtain ⟨e0, e1, e2⟩ := HLk.out w5 hb5.out
                have HO6 := Lib.hid (HO5.out.alloc (.cells #[.string (str x0), .int .i64 x1, .string (str x2)] 29))
                have HS6 : Hid (Sl (w5.alloc (.cells #[.string (str x0), .int .i64 x1, .string (str x2)] 29)) 3 1 (.slice (some ⟨w5.heap.size, 0, none⟩) 1 1) (RW.cells [(x0, x1, x2)])) := Sl.lit w5 29 3 1 #[.string (str x0), .int .i64 x1, .string (str x2)] (0, 0) rfl (by decide)
                have HB6 : Hid (Below G w4 (w5.alloc (.cells #[.string (str x0), .int .i64 x1, .string (str x2)] 29))) := HB5.out.alloc (by omega) _
                have hG6 : G ≤ (w5.alloc (.cells #[.string (str x0), .int .i64 x1, .string (str x2)] 29)).heap.size := by simp; omega
                clear HO5 HB5 hb5
                go_wp2_with (at_builtin; go_must (refine wpList_append_sl rfl _ _ 25 rfl G 29 _ 3 40 Try.underlying25 infoRw rfl (by decide) _ _ _ rfl HO6.out _ 1 (RW.cells [(x0, x1, x2)]) rfl HS6.out (rw_oneCell _) (by unfold maxLen; omega) (by omega) hG6 ?_))
                intro v7 w7 hown7 hgrow hnn
                clear hnn
                have HB7 : Hid (Below G w4 w7) := HB6.out.grown hgrow hG6 (ownBlock_ge HO6.out)
                have hG7 : G ≤ w7.heap.size := Nat.le_trans hG6 hgrow.size
                have HO7 : Hid (w7.ownsRow G 29 3 v7 (j + 1) (RW.cells (C.take j) ++ RW.cells [(x0, x1, x2)])) := hown7
                have HS7 : Hid (Sl w7 3 (c - j) vd (RW.cells (C.drop j))) := HVD.out.below (by rw [HG.out]; exact HB7.out)
                clear hown7 hgrow HO6 HS6 HB6 hG6 hG5 cell e0 e1 e2 HVT HVD
                go_wp2_with (at_builtin; go_must (refine wpList_append_sl rfl _ _ 25 rfl G 29 _ 3 40 Try.underlying25 infoRw rfl (by decide) _ _ _ rfl HO7.out _ (c - j) (RW.cells (C.drop j)) rfl HS7.out (rw_oneCell _) (by unfold maxLen; omega) (by omega) hG7 ?_))
                intro v9 w9 hown9 hgrow hnn
                clear hnn
                have HB9 : Hid (Below G w4 w9) := HB7.out.grown hgrow hG7 (ownBlock_ge HO7.out)
                have hb9 : Hid (Below w.heap.size w w9) := below_next hb4.out (by rw [HG.out]; exact HB9.out)
                have HR9 : Hid (Rs w9 v9 (C.take j ++ (x0, x1, x2) :: C.drop j)) := by
                  refine Three.Ss.of_owns (base := G) (e := 29) (n := j + 1 + (c - j)) ?_
                  have := hown9
                  rw [← RW.cells_append, ← RW.cells_append] at this
                  simpa using this
                clear hown9 hgrow HO7 HS7 HB7 hG7 HB9 hb4 hrd
                go_wp2_with fail
                go_roundw
                case rel => exact ⟨k + 1, C.take j ++ (x0, x1, x2) :: C.drop j, by omega, by go_num, HR9, HINS, hb9⟩
                case measure => simp [intOf]; omega
            · obtain rfl : j = 0 := by omega
              have HINS := Lib.hid (HIns.out 0 HD.out (fun q' hq' h' => by omega) hjc)
              clear HD
              go_wp2_with fail
              refine wp_region_mix ext_grow [(0, false), (1, false), (2, false), (3, false), (4, false), (5, false), (6, false), (7, false), (8, false), (9, false), (10, false), (11, false), (12, false), (13, false), (14, false), (15, false), (16, false)] (by kernel_rfl) (by kernel_rfl) ?_
              have HR0 : Hid (Rs wr.drew (.slice a5 c c5) C) := HR.out
              have hbr1 : Hid (Below w.heap.size w wr.drew) := hbr.out.drew
              clear HR hbr
              generalize wr.drew = w0 at *
              repeat (refine mix_soft rfl (fun K hK => ?_); go_simp; (first | (refine hK _ ?_; clear hK K) | (apply Exists.intro; refine ⟨fun x => ?_, hK _ ?_⟩; (first | (go_at_call 10; with_reducible exact HC.out _)); clear hK K)))
              refine mix_done fun w4 hb5 => ?_
              have HR4 : Hid (Rs w4 (.slice a5 c c5) C) := Three.Ss.below HR0.out hb5
              have hb4 := Lib.hid (below_next hbr1.out hb5)
              clear hb5 HR0 hbr1
              obtain ⟨vt, HVt, hrt⟩ := rs_take HR4.out HCc.out .i64 0 hjc
              obtain ⟨vd, HVd, hrd⟩ := rs_drop HR4.out HCc.out .i64 0 hjc
              rw [show ((0 : Nat) : Int) = 0 from rfl] at hrt hrd
              have HVT := Lib.hid HVt
              have HVD := Lib.hid HVd
              obtain ⟨G, hG⟩ : ∃ G, w4.heap.size = G := ⟨_, rfl⟩
              have HO0 := Lib.hid (World.ownsRow_nil w4 G 29 3)
              have HS0 : Hid (Sl w4 3 0 vt (RW.cells (C.take 0))) := HVt
              have hG4 : G ≤ w4.heap.size := Nat.le_of_eq hG.symm
              have HG := Lib.hid hG
              clear HR4 HVt HVd hG
              go_wp2_with (at_builtin; go_must (refine wpList_append_sl rfl _ _ 25 rfl G 29 _ 3 40 Try.underlying25 infoRw rfl (by decide) _ _ _ rfl HO0.out _ 0 (RW.cells (C.take 0)) rfl HS0.out (rw_oneCell _) (by unfold maxLen; omega) (by omega) hG4 ?_))
              intro v5 w5 hown5 hgrow hnn
              clear hnn
              have HB5 : Hid (Below G w4 w5) := (Below.refl _ _).grown hgrow hG4 (ownBlock_ge HO0.out)
              have HO5 : Hid (w5.ownsRow G 29 3 v5 0 (RW.cells (C.take 0))) := by
                unfold Hid
                simpa using hown5
              clear hown5 hgrow HO0 HS0 hG4 hrt
              have hb5 : Hid (Below w.heap.size w w5) := below_next hb4.out (by rw [HG.out]; exact HB5.out)
              have hG5 : G ≤ w5.heap.size := by rw [← HG.out]; exact HB5.out.size
              have cell := HCell.out w5 hb5.out
              obtain ⟨e0, e1, e2⟩ := HLk.out w5 hb5.out
              have HO6 := Lib.hid (HO5.out.alloc (.cells #[.string (str x0), .int .i64 x1, .string (str x2)] 29))
              have HS6 : Hid (Sl (w5.alloc (.cells #[.string (str x0), .int .i64 x1, .string (str x2)] 29)) 3 1 (.slice (some ⟨w5.heap.size, 0, none⟩) 1 1) (RW.cells [(x0, x1, x2)])) := Sl.lit w5 29 3 1 #[.string (str x0), .int .i64 x1, .string (str x2)] (0, 0) rfl (by decide)
              have HB6 : Hid (Below G w4 (w5.alloc (.cells #[.string (str x0), .int .i64 x1, .string (str x2)] 29))) := HB5.out.alloc (by omega) _
              have hG6 : G ≤ (w5.alloc (.cells #[.string (str x0), .int .i64 x1, .string (str x2)] 29)).heap.size := by simp; omega
              clear HO5 HB5 hb5
              go_wp2_with (at_builtin; go_must (refine wpList_append_sl rfl _ _ 25 rfl G 29 _ 3 40 Try.underlying25 infoRw rfl (by decide) _ _ _ rfl HO6.out _ 1 (RW.cells [(x0, x1, x2)]) rfl HS6.out (rw_oneCell _) (by unfold maxLen; omega) (by omega) hG6 ?_))
              intro v7 w7 hown7 hgrow hnn
              clear hnn
              have HB7 : Hid (Below G w4 w7) := HB6.out.grown hgrow hG6 (ownBlock_ge HO6.out)
              have hG7 : G ≤ w7.heap.size := Nat.le_trans hG6 hgrow.size
              have HO7 : Hid (w7.ownsRow G 29 3 v7 (0 + 1) (RW.cells (C.take 0) ++ RW.cells [(x0, x1, x2)])) := hown7
              have HS7 : Hid (Sl w7 3 (c - 0) vd (RW.cells (C.drop 0))) := HVD.out.below (by rw [HG.out]; exact HB7.out)
              clear hown7 hgrow HO6 HS6 HB6 hG6 hG5 cell e0 e1 e2 HVT HVD
              go_wp2_with (at_builtin; go_must (refine wpList_append_sl rfl _ _ 25 rfl G 29 _ 3 40 Try.underlying25 infoRw rfl (by decide) _ _ _ rfl HO7.out _ (c - 0) (RW.cells (C.drop 0)) rfl HS7.out (rw_oneCell _) (by unfold maxLen; omega) (by omega) hG7 ?_))
              intro v9 w9 hown9 hgrow hnn
              clear hnn
              have HB9 : Hid (Below G w4 w9) := HB7.out.grown hgrow hG7 (ownBlock_ge HO7.out)
              have hb9 : Hid (Below w.heap.size w w9) := below_next hb4.out (by rw [HG.out]; exact HB9.out)
              have HR9 : Hid (Rs w9 v9 (C.take 0 ++ (x0, x1, x2) :: C.drop 0)) := by
                refine Three.Ss.of_owns (base := G) (e := 29) (n := 0 + 1 + (c - 0)) ?_
                have := hown9
                rw [← RW.cells_append, ← RW.cells_append] at this
                simpa using this
              clear hown9 hgrow HO7 HS7 HB7 hG7 HB9 hb4 hrd
              go_wp2_with fail
              go_roundw
              case rel => exact ⟨k + 1, C.take 0 ++ (x0, x1, x2) :: C.drop 0, by omega, by go_num, HR9, HINS, hb9⟩
              case measure => simp [intOf]; omega
        · obtain rfl : k = m := by omega
          rw [List.take_of_length_le (Nat.le_of_eq HM.out), ← HST.out] at HI
          go_wp2_with fail
          go_roundw
          case rel => exact ⟨i + 1, C, by omega, by go_num, HR, HI, hbr⟩
          case measure => simp [intOf]; omega
    · have HF := Lib.hid (show (rows.take i).flatten = rows.flatten by rw [List.take_of_length_le (by rw [HN.out]; omega)])
      rw [HF.out] at HI
      obtain ⟨a5, c5, rfl, -⟩ := HR.out.shape
      have hlen := HR.out.len
      obtain ⟨k, hk⟩ : ∃ k, S.upto most C0.length = k := ⟨_, rfl⟩
      have hkl : k ≤ C0.length := by rw [← hk]; exact Nat.min_le_right _ _
      obtain ⟨vt, hvt, hrt⟩ := rs_take HR.out rfl .i64 k hkl
      have HT : Hid (Rs wr vt (C0.take (S.upto most C0.length))) := by
        unfold Hid Rs Three.Ss
        rw [hk, List.length_take, Nat.min_eq_left hkl]
        exact hvt
      have HA : Hid (k = C0.length → Rs wr (.slice a5 C0.length c5) (C0.take (S.upto most C0.length))) := fun h => by
        rw [hk, h, List.take_of_length_le (Nat.le_refl _)]
        exact HR.out
      clear hvt HF HR
      obtain ⟨c, hc⟩ : ∃ c, C0.length = c := ⟨_, rfl⟩
      unfold S.upto at hk
      rw [hc] at hk hkl hlen hrt ⊢
      have HA2 : Hid (k = c → Rs wr (.slice a5 c c5) (C0.take (S.upto most C0.length))) := fun h => by
        have := HA.out (by rw [hc]; exact h)
        rw [hc] at this ⊢
        exact this
      clear HA hc
      by_cases h1 : most < 0
      · obtain rfl : k = 0 := by omega
        rw [show ((0 : Nat) : Int) = 0 from rfl] at hrt
        by_cases h2 : 0 < c
        · have h3 : (0 : Int) < (c : Int) := by omega
          clear HA2
          go_wp2_with fail
          go_ret
          first | exact ⟨vt, C0, rfl, HI.out, HT.out, hbr.out⟩ | exact ⟨vt, rfl, C0, HI.out, HT.out, hbr.out⟩
        · obtain rfl : c = 0 := by omega
          have HT := Lib.hid (HA2.out rfl)
          clear HA2
          go_wp2_with fail
          go_ret
          first | exact ⟨_, C0, rfl, HI.out, HT.out, hbr.out⟩ | exact ⟨_, rfl, C0, HI.out, HT.out, hbr.out⟩
      · by_cases h2 : most < (c : Int)
        · have hkm : (k : Int) = most := by omega
          rw [hkm] at hrt
          clear HA2
          go_wp2_with fail
          go_ret
          first | exact ⟨vt, C0, rfl, HI.out, HT.out, hbr.out⟩ | exact ⟨vt, rfl, C0, HI.out, HT.out, hbr.out⟩
        · obtain rfl : k = c := by omega
          have HT := Lib.hid (HA2.out rfl)
          clear HA2
          go_wp2_with fail
          go_ret
          first | exact ⟨_, C0, rfl, HI.out, HT.out, hbr.out⟩ | exact ⟨_, rfl, C0, HI.out, HT.out, hbr.out⟩
end Go.Proofs.Ytgipmbphbcnhcaa
