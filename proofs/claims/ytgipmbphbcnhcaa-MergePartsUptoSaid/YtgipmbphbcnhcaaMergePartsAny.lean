/- MergeParts returns true. -/
import Derived.Test.YtgipmbphbcnhcaaRwMore
import Derived.Deep.CutRange
namespace Go.Proofs.Ytgipmbphbcnhcaa
open Go Go.RowKit

set_option maxRecDepth 8000 in
set_option maxHeartbeats 16000000 in
theorem mparts_any (v : Value) (rows : List (List Rw)) (most at_ : Nat) (w : World) (h : Vs w v rows) (hl : rows.length + rows.flatten.length ≤ 4611686018427387904) (hmost : most < 256) (hat : at_ < 256) :
    Calls Try.prog 4 #[v, .int .u8 most, .int .u8 at_] w fun e w' => e = .returned (.bool true) ∧ Below w.heap.size w w' := by
  have HA := Lib.hid (awake_any w)
  have HS := Lib.hid (fun W (hW : Below w.heap.size w W) => small_any v rows W (h.below hW) hl)
  have HV := Lib.hid h
  clear h hl
  obtain ⟨ao, cap, rfl, -⟩ := HV.out.shape
  go_enter Try.func4, Try.ntmps4
  go_wp2_with fail
  refine HA.out.mono ?_
  rintro e w1 ⟨rfl, hb1⟩
  have s := Lib.hid (HS.out w1 hb1)
  clear HA HS
  go_wp2_with fail
  refine s.out.mono ?_
  rintro e w2 ⟨b, rfl, hbt, hx⟩
  have hb2 := below_next hb1 hx
  clear hb1 hx s
  cases b with
  | false =>
    clear HV hbt
    go_wp2_with fail
    go_ret
    exact ⟨rfl, hb2⟩
  | true =>
    have h120 := hbt rfl
    have s := Lib.hid (union_any (.slice ao rows.length cap) rows 1000 w2 (HV.out.below hb2) (by omega))
    clear hbt
    go_wp2_with fail
    refine s.out.mono ?_
    rintro e w3 ⟨v3, C, rfl, hC, hr, hx⟩
    have hb3 := Lib.hid (below_next hb2 hx)
    have HC := Lib.hid hC
    have hCl := hC.len
    rw [S.upto_all (by omega)] at hr
    have HR := Lib.hid hr
    obtain ⟨p9, cap9, rfl, -⟩ := hr.shape
    obtain ⟨c, hc⟩ : ∃ c, C.length = c := ⟨_, rfl⟩
    have HCc := Lib.hid hc
    obtain ⟨n, hn⟩ : ∃ n, rows.length = n := ⟨_, rfl⟩
    have HN := Lib.hid hn
    rw [hc] at hCl HR ⊢
    have HT := Lib.hid hCl.symm
    rw [hn] at HV h120 ⊢
    have hn120 : n ≤ 120 := by omega
    have hc120 : c ≤ 120 := by omega
    clear hC hr hx s hCl hn hb2 hc h120
    go_wp2_with fail
    go_loopw [10, 11] (fun t u wr => ∃ i s : Nat, i ≤ n ∧ s ≤ c ∧ u = .int .i64 i ∧ t = .int .i64 s ∧ Hid ((rows.take i).flatten.length = s) ∧ Hid (Rs wr (.slice p9 c cap9) C) ∧ Hid (Below w.heap.size w wr)) (fun _ u _ => n - (intOf u).toNat)
    case atStart => exact ⟨0, 0, by omega, by omega, rfl, rfl, rfl, HR, hb3⟩
    case round =>
      clear HR hb3
      obtain ⟨i, s, hi, hs, rfl, rfl, HS, HR, hbr⟩ := hrel
      by_cases hin : i < n
      · have hin' : (i : Int) < (n : Int) := by omega
        obtain ⟨b, off, x, rfl, hx, hc⟩ := HV.out.at (j := i) (by rw [HN.out]; exact hin)
        have hfl : (rows.take i).flatten.length + (rows[i]'(by rw [HN.out]; exact hin)).length ≤ rows.flatten.length := S.flat_len _
        have hst : (rows.take (i + 1)).flatten.length = (rows.take i).flatten.length + (rows[i]'(by rw [HN.out]; exact hin)).length := by rw [S.flat_step (by rw [HN.out]; exact hin), List.length_append]
        obtain ⟨px, cx, rfl, -⟩ := hx.shape
        have hcell := hc wr hbr.out
        obtain ⟨m, hm⟩ : ∃ m, (rows[i]'(by rw [HN.out]; exact hin)).length = m := ⟨_, rfl⟩
        rw [hm] at hfl hst hcell
        rw [HT.out, HS.out] at hfl
        have HS2 : Hid ((rows.take (i + 1)).flatten.length = s + m) := by have := HS.out; unfold Hid; omega
        clear hx hc hm hst HS
        go_wp2_with fail
        go_roundw
        case rel => exact ⟨i + 1, s + m, by omega, hfl, by go_num, by go_num, HS2, HR, hbr⟩
        case measure => simp [intOf]; omega
      · have hsc : s = c := by
          have h1 := HS.out
          rw [List.take_of_length_le (by rw [HN.out]; omega), HT.out] at h1
          exact h1.symm
        subst hsc
        have hin' : ¬ ((i : Int) < (n : Int)) := by omega
        clear HS hin hs
        have hkk : (at_ : Int) % ((n : Int) + 1) = ((at_ % (n + 1) : Nat) : Int) := by rw [Int.natCast_emod, Int.natCast_add]; rfl
        have hkl : at_ % (n + 1) ≤ n := by have := Nat.mod_lt at_ (show 0 < n + 1 by omega); omega
        have hc0 : (0 : Int) ≤ (at_ : Int) := by omega
        have hc256 : (at_ : Int) < 256 := by omega
        have hm0 : (0 : Int) ≤ (most : Int) := by omega
        have hm256 : (most : Int) < 256 := by omega
        obtain ⟨k, hkdef⟩ : ∃ k, at_ % (n + 1) = k := ⟨_, rfl⟩
        rw [hkdef] at hkk hkl
        clear hkdef
        obtain ⟨vt, HVt, hrt⟩ := run_vtake HV.out k (by rw [HN.out]; exact hkl)
        obtain ⟨vd, HVd, hrd⟩ := run_vdrop HV.out k (by rw [HN.out]; exact hkl)
        have HVT := Lib.hid HVt
        have HVD := Lib.hid HVd
        have HFP := Lib.hid (S.flat_parts (rows := rows) k)
        rw [HT.out] at HFP
        clear HVt HVd
        go_wp2_with fail
        refine wp_region_mix ext_grow [(0, false), (1, false), (2, false), (4, false), (5, false), (6, false), (3, true), (7, true), (8, true), (9, false)] (by kernel_rfl) (by kernel_rfl) ?_
        have HR0 : Hid (Rs wr.drew (.slice p9 s cap9) C) := HR.out
        have hb4 : Hid (Below w.heap.size w wr.drew) := hbr.out.drew
        clear HR hbr
        generalize wr.drew = w0 at *
        repeat (refine mix_soft rfl (fun K hK => ?_); go_simp; (first | (refine hK _ ?_; clear hK K) | (apply Exists.intro; refine ⟨fun x => ?_, hK _ ?_⟩; (first | done); clear hK K)))
        clear hrt hrd hkk
        refine mix_loud rfl (fun K hK => ?_)
        go_simp
        intro x
        refine (union_any vt (rows.take k) 1000 x.1 (HVT.out.below (below_next hb4.out x.2)) (by have := HFP.out; omega)).mono ?_
        rintro e w5 ⟨v5, C1, rfl, hC1, hr5, hx⟩
        have h1l := hC1.len
        rw [S.upto_all (by have := HFP.out; omega)] at hr5
        obtain ⟨a5, c5, rfl, -⟩ := hr5.shape
        obtain ⟨n5, hn5⟩ : ∃ n5, C1.length = n5 := ⟨_, rfl⟩
        rw [hn5] at hr5 ⊢
        refine ⟨_, rfl, hx, hK _ _ ?_⟩
        clear hK K
        have hx5 := below_next x.2 hx
        have HR5 : Hid (Rs w5 (.slice p9 s cap9) C) := Three.Ss.below HR0.out hx5
        have hb5 := Lib.hid (below_next hb4.out hx5)
        have R5 := Lib.hid hr5
        clear hn5
        have HC1 := Lib.hid hC1
        clear hC1 hr5 hx hx5 HR0 hb4 x h1l
        refine mix_loud rfl (fun K hK => ?_)
        go_simp
        intro x
        refine (union_any vd (rows.drop k) 1000 x.1 (HVD.out.below (below_next hb5.out x.2)) (by have := HFP.out; omega)).mono ?_
        rintro e w6 ⟨v6, C2, rfl, hC2, hr6, hx⟩
        have h2l := hC2.len
        rw [S.upto_all (by have := HFP.out; omega)] at hr6
        obtain ⟨a6, c6, rfl, -⟩ := hr6.shape
        obtain ⟨n6, hn6⟩ : ∃ n6, C2.length = n6 := ⟨_, rfl⟩
        rw [hn6] at hr6 ⊢
        refine ⟨_, rfl, hx, hK _ _ ?_⟩
        clear hK K
        have hx6 := below_next x.2 hx
        have HR6 : Hid (Rs w6 (.slice p9 s cap9) C) := Three.Ss.below HR5.out hx6
        have hb6 := Lib.hid (below_next hb5.out hx6)
        have R56 : Hid (Rs w6 (.slice a5 n5 c5) C1) := Three.Ss.below R5.out hx6
        clear hn6
        have R6 := Lib.hid hr6
        have HC2 := Lib.hid hC2
        clear hC2 hr6 hx hx6 HR5 hb5 x R5 h2l HVT HVD
        refine mix_loud rfl (fun K hK => ?_)
        go_simp
        intro x
        refine hK _ _ ?_
        clear hK K
        have HTW : Hid (Vs (x.1.alloc (.cells #[.slice a5 n5 c5, .slice a6 n6 c6] 25)) (.slice (some ⟨x.1.heap.size, 0, none⟩) 2 2) [C1, C2]) := Vs.two (Three.Ss.below R56.out x.2) (Three.Ss.below R6.out x.2)
        have hx7 : Below w6.heap.size w6 (x.1.alloc (.cells #[.slice a5 n5 c5, .slice a6 n6 c6] 25)) := Below.alloc x.2 (Below.size x.2) _
        have HR7 : Hid (Rs (x.1.alloc (.cells #[.slice a5 n5 c5, .slice a6 n6 c6] 25)) (.slice p9 s cap9) C) := Three.Ss.below HR6.out hx7
        have hb7 := Lib.hid (below_next hb6.out hx7)
        clear hx7 HR6 hb6 R56 R6
        generalize x.1.alloc (.cells #[.slice a5 n5 c5, .slice a6 n6 c6] 25) = w7 at *
        generalize x.1.heap.size = B7 at *
        clear x
        repeat (refine mix_soft rfl (fun K hK => ?_); go_simp; (first | (refine hK _ ?_; clear hK K) | (apply Exists.intro; refine ⟨fun x => ?_, hK _ ?_⟩; (first | done); clear hK K)))
        refine mix_done fun w8 hx => ?_
        have HTW8 := Lib.hid (HTW.out.below hx)
        have HR8 : Hid (Rs w8 (.slice p9 s cap9) C) := Three.Ss.below HR7.out hx
        have hb8 := Lib.hid (below_next hb7.out hx)
        have HTG := Lib.hid (fun D hD => S.two_goes (D := D) HC.out HC1.out HC2.out hD)
        have HTL : Hid ([C1, C2].flatten.length = s) := by
          have h1 := HC1.out.len
          have h2 := HC2.out.len
          have h3 := HFP.out
          unfold Hid
          simp
          omega
        clear hx HTW HR7 hb7 HC1 HC2 HFP
        obtain ⟨m, hm⟩ : ∃ m, min most s = m := ⟨_, rfl⟩
        have hms : m ≤ s := by omega
        go_upto_region 15 with fail
        go_cut [14] from 58 to 61 (fun u wc => u = .int .i64 m ∧ w8 = wc)
        case first =>
          by_cases hmc : most ≤ s
          · obtain rfl : most = m := by omega
            have h2 : (most : Int) ≤ (s : Int) := by omega
            go_wp2_with fail
            go_meet
            exact ⟨rfl, rfl⟩
          · obtain rfl : s = m := by omega
            have h2 : ¬ ((most : Int) ≤ (s : Int)) := by omega
            have h3 : (s : Int) < (most : Int) := by omega
            go_wp2_with fail
            go_meet
            exact ⟨rfl, rfl⟩
        case rest =>
          obtain ⟨rfl, rfl⟩ := hcut
          have hupto : Hid (S.upto (most : Int) s = m) := by
            have := hm
            unfold Hid S.upto
            rw [Int.toNat_natCast]
            exact this
          obtain ⟨vm, HVm, hrm⟩ := rs_take HR8.out HCc.out .i64 m hms
          have HVM : Hid (Rs w8 vm (C.take m)) := by
            unfold Hid Rs Three.Ss
            rw [List.length_take, HCc.out, Nat.min_eq_left hms]
            exact HVm
          clear HVm hm
          have fm : IntKind.i64.wrap (most : Int) = (most : Int) := by rw [IntKind.wrap_i64] <;> omega
          go_wp2_with fail
          refine wp_region_mix ext_grow [(0, false), (1, false), (2, false), (3, false), (4, false), (5, false), (6, false), (7, false), (9, false), (10, false), (11, false), (8, true), (12, false), (13, false), (14, false), (15, false), (16, false), (18, false), (17, true), (19, false), (20, false), (21, false)] (by kernel_rfl) (by kernel_rfl) ?_
          have HR9 : Hid (Rs w8.drew (.slice p9 s cap9) C) := HR8.out
          have HTW9 : Hid (Vs w8.drew (.slice (some ⟨B7, 0, none⟩) 2 2) [C1, C2]) := HTW8.out.below (below_drewN w8 1)
          have HVM9 : Hid (Rs w8.drew vm (C.take m)) := Three.Ss.below HVM.out (below_drewN w8 1)
          have hb9 : Hid (Below w.heap.size w w8.drew) := hb8.out.drew
          clear HR8 HTW8 HVM hb8
          generalize w8.drew = w9 at *
          repeat (refine mix_soft rfl (fun K hK => ?_); go_simp; (first | (refine hK _ ?_; clear hK K) | (apply Exists.intro; refine ⟨fun x => ?_, hK _ ?_⟩; (first | done); clear hK K)))
          clear hrm
          refine mix_loud rfl (fun K hK => ?_)
          go_simp
          intro x
          refine (union_any _ rows most x.1 (HV.out.below (below_next hb9.out x.2)) (by rw [HT.out]; omega)).mono ?_
          rintro e wA ⟨vA, D, rfl, hD, hrA, hx⟩
          refine ⟨_, rfl, hx, hK _ _ ?_⟩
          clear hK K
          obtain rfl := hD.eq HC.out
          rw [HCc.out, hupto.out] at hrA
          have hxA := below_next x.2 hx
          have HRA : Hid (Rs wA (.slice p9 s cap9) D) := Three.Ss.below HR9.out hxA
          have HTWA := Lib.hid (HTW9.out.below hxA)
          have HVMA : Hid (Rs wA vm (D.take m)) := Three.Ss.below HVM9.out hxA
          have hbA := Lib.hid (below_next hb9.out hxA)
          have RA := Lib.hid hrA
          have Same1 : Hid (∀ x : Later wA, Calls Try.prog 11 #[vA, vm] x.1 fun e w' => e = .returned (.bool true) ∧ Ext x.1 w') := fun x => by
            have := rwSame_any vA vm (D.take m) (D.take m) x.1 (Three.Ss.below RA.out x.2) (Three.Ss.below HVMA.out x.2)
            rw [show (D.take m == D.take m) = true by simp] at this
            exact this
          clear hD hrA hx hxA x HR9 HTW9 HVM9 hb9
          repeat (refine mix_soft rfl (fun K hK => ?_); go_simp; (first | (refine hK _ ?_; clear hK K) | (apply Exists.intro; refine ⟨fun x => ?_, hK _ ?_⟩; (first | (go_at_call 11; (first | with_reducible exact Same1.out x | with_reducible exact Same2.out x))); clear hK K)))
          clear Same1 RA HVMA
          refine mix_loud rfl (fun K hK => ?_)
          go_simp
          intro x
          refine (union_any _ [C1, C2] 1000 x.1 (HTWA.out.below x.2) (by rw [HTL.out]; omega)).mono ?_
          rintro e wB ⟨vB, D2, rfl, hD, hrB, hx⟩
          refine ⟨_, rfl, hx, hK _ _ ?_⟩
          clear hK K
          obtain rfl := HTG.out _ hD
          rw [S.upto_all (by rw [HCc.out]; omega)] at hrB
          have hxB := below_next x.2 hx
          have HRB : Hid (Rs wB (.slice p9 s cap9) D2) := Three.Ss.below HRA.out hxB
          have hbB := Lib.hid (below_next hbA.out hxB)
          have RB := Lib.hid hrB
          have Same2 : Hid (∀ x : Later wB, Calls Try.prog 11 #[vB, .slice p9 s cap9] x.1 fun e w' => e = .returned (.bool true) ∧ Ext x.1 w') := fun x => by
            have := rwSame_any vB (.slice p9 s cap9) D2 D2 x.1 (Three.Ss.below RB.out x.2) (Three.Ss.below HRB.out x.2)
            rw [show (D2 == D2) = true by simp] at this
            exact this
          clear hD hrB hx hxB x HRA HTWA hbA
          repeat (refine mix_soft rfl (fun K hK => ?_); go_simp; (first | (refine hK _ ?_; clear hK K) | (apply Exists.intro; refine ⟨fun x => ?_, hK _ ?_⟩; (first | (go_at_call 11; (first | with_reducible exact Same1.out x | with_reducible exact Same2.out x))); clear hK K)))
          clear Same2 RB HTG HTL
          refine mix_done fun wC hx => ?_
          have HR := Lib.hid (Three.Ss.below HRB.out hx)
          have hbr := Lib.hid (below_next hbB.out hx)
          clear HRB hbB hx
          go_wp2_with fail
          go_loopw [15] (fun u wr => ∃ i : Nat, i ≤ s ∧ u = .int .i64 i ∧ Hid (Rs wr (.slice p9 s cap9) D2) ∧ Hid (Below w.heap.size w wr)) (fun u _ => s - (intOf u).toNat)
          case atStart => exact ⟨0, by omega, rfl, HR, hbr⟩
          case round =>
            clear HR hbr
            obtain ⟨i, hi, rfl, HR, hbr⟩ := hrel
            by_cases his : i < s
            · have his' : (i : Int) < (s : Int) := by omega
              have hi0 : (0 : Int) ≤ (i : Int) := by omega
              obtain ⟨b9, o9, rfl, -⟩ := HR.out.at (k := i) (by rw [HCc.out]; exact his)
              have HIi : Hid (i < D2.length) := by rw [HCc.out]; exact his
              obtain ⟨x, hx⟩ : ∃ x, D2[i]'HIi.out = x := ⟨_, rfl⟩
              have HX := Lib.hid hx
              have HLs : Hid (∀ q (h : q + 1 = i), S.rlt x (D2[q]'(by have := HIi.out; omega)) = false) := fun q hq => by
                subst hq
                rw [← hx]
                exact S.sorted_at HC.out.sorted _
              clear hx
              have HCt : Hid (D2.count x = rows.flatten.count x) := HC.out.alike.count x
              obtain ⟨x0, x1, x2⟩ := x
              go_wp2_with fail
              go_loopw [16, 18] (fun t u wr => ∃ j r : Nat, j ≤ s ∧ u = .int .i64 j ∧ t = .int .i64 r ∧ Hid ((D2.take j).count (x0, x1, x2) = r) ∧ Hid (Rs wr (.slice (some ⟨b9, o9, none⟩) s cap9) D2) ∧ Hid (Below w.heap.size w wr)) (fun _ u _ => s - (intOf u).toNat)
              case atStart => exact ⟨0, 0, by omega, rfl, rfl, rfl, HR, hbr⟩
              case round =>
                clear HR hbr
                obtain ⟨j, r, hj, rfl, rfl, HK, HR, hbr⟩ := hrel
                by_cases hjs : j < s
                · have hjs' : (j : Int) < (s : Int) := by omega
                  have hj0 : (0 : Int) ≤ (j : Int) := by omega
                  obtain ⟨p0, p1, p2⟩ := HR.out.cells HIi.out
                  rw [HX.out] at p0 p1 p2
                  obtain ⟨q0, q1, q2⟩ := HR.out.cells (k := j) (by rw [HCc.out]; exact hjs)
                  have hst := S.count_step (l := D2) (x := (x0, x1, x2)) (k := j) (by rw [HCc.out]; exact hjs)
                  have hrl : r ≤ j := by rw [← HK.out]; exact Nat.le_trans List.count_le_length (by rw [List.length_take]; omega)
                  rw [HK.out] at hst
                  have hq := rw_eql (D2[j]'(by rw [HCc.out]; exact hjs)) (x0, x1, x2)
                  obtain ⟨y, hy⟩ : ∃ y, D2[j]'(by rw [HCc.out]; exact hjs) = y := ⟨_, rfl⟩
                  rw [hy] at q0 q1 q2 hst hq
                  have hg := fun z z' => rw_guard .eql z z' #[RW.c0 y, RW.c1 y, RW.c2 y] #[RW.c0 (x0, x1, x2), RW.c1 (x0, x1, x2), RW.c2 (x0, x1, x2)]
                  clear hy
                  obtain ⟨y0, y1, y2⟩ := y
                  simp only [RW] at hq hg
                  cases hyx : ((y0, y1, y2) == (x0, x1, x2)) with
                  | true =>
                    rw [hyx] at hst hq
                    have HK2 : Hid ((D2.take (j + 1)).count (x0, x1, x2) = r + 1) := hst
                    clear hst hyx HK
                    go_wp2_with fail
                    go_quiet (fail)
                    clear p0 p1 p2 q0 q1 q2 hq hg
                    go_wp2_with fail
                    go_roundw
                    case rel => exact ⟨j + 1, r + 1, by omega, by go_num, by go_num, HK2, HR, Lib.hid (below_next hbr.out (below_drewN _ _))⟩
                    case measure => simp [intOf]; omega
                  | false =>
                    rw [hyx] at hst hq
                    have HK2 : Hid ((D2.take (j + 1)).count (x0, x1, x2) = r) := hst
                    clear hst hyx HK
                    go_wp2_with fail
                    go_quiet (fail)
                    clear p0 p1 p2 q0 q1 q2 hq hg
                    go_wp2_with fail
                    go_roundw
                    case rel => exact ⟨j + 1, r, by omega, by go_num, rfl, HK2, HR, Lib.hid (below_next hbr.out (below_drewN _ _))⟩
                    case measure => simp [intOf]; omega
                · obtain rfl : j = s := by omega
                  rw [List.take_of_length_le (by rw [HCc.out]; exact Nat.le_refl _), HCt.out] at HK
                  have HK1 : Hid (rows.flatten.count (x0, x1, x2) = r) := HK
                  clear HK
                  go_wp2_with fail
                  go_loopw [17, 19] (fun t u wr => ∃ j' r' : Nat, j' ≤ n ∧ u = .int .i64 j' ∧ t = .int .i64 r' ∧ Hid ((rows.take j').flatten.count (x0, x1, x2) = r') ∧ Hid (Rs wr (.slice (some ⟨b9, o9, none⟩) j cap9) D2) ∧ Hid (Below w.heap.size w wr)) (fun _ u _ => n - (intOf u).toNat)
                  case atStart => exact ⟨0, 0, by omega, rfl, rfl, rfl, HR, hbr⟩
                  case round =>
                    clear HR hbr
                    obtain ⟨j', r', hj', rfl, rfl, HK, HR, hbr⟩ := hrel
                    by_cases hjn : j' < n
                    · have hjn' : (j' : Int) < (n : Int) := by omega
                      have hjn0 : (0 : Int) ≤ (j' : Int) := by omega
                      obtain ⟨b, off, z, rfl, hz, hc⟩ := HV.out.at (j := j') (by rw [HN.out]; exact hjn)
                      have hcf := S.count_flat (rows := rows) (x := (x0, x1, x2)) (k := j') (by rw [HN.out]; exact hjn)
                      have hfl : (rows.take j').flatten.length + (rows[j']'(by rw [HN.out]; exact hjn)).length ≤ rows.flatten.length := S.flat_len _
                      rw [HT.out] at hfl
                      have hrl : r' ≤ (rows.take j').flatten.length := by rw [← HK.out]; exact List.count_le_length
                      rw [HK.out] at hcf
                      obtain ⟨l, hl⟩ : ∃ l, rows[j']'(by rw [HN.out]; exact hjn) = l := ⟨_, rfl⟩
                      rw [hl] at hz hcf hfl
                      obtain ⟨pz, cz, rfl, -⟩ := hz.shape
                      obtain ⟨m', hm'⟩ : ∃ m', l.length = m' := ⟨_, rfl⟩
                      rw [hm'] at hz hc hfl
                      have HM := Lib.hid hm'
                      have HZ := Lib.hid hz
                      have HCell := Lib.hid hc
                      have HCF := Lib.hid hcf
                      have hr120 : r' + m' ≤ 120 := by omega
                      clear hl hm' hz hc hcf hfl hrl HK
                      go_wp2_with fail
                      go_loopw [17, 20] (fun t u wr => ∃ k' r2 : Nat, k' ≤ m' ∧ u = .int .i64 k' ∧ t = .int .i64 r2 ∧ Hid (r' + (l.take k').count (x0, x1, x2) = r2) ∧ Hid (Rs wr (.slice (some ⟨b9, o9, none⟩) j cap9) D2) ∧ Hid (Below w.heap.size w wr)) (fun _ u _ => m' - (intOf u).toNat)
                      case atStart => exact ⟨0, r', by omega, rfl, rfl, rfl, HR, hbr⟩
                      case round =>
                        clear HR hbr
                        obtain ⟨k', r2, hk', rfl, rfl, HK, HR, hbr⟩ := hrel
                        have hcell := HCell.out _ hbr.out
                        by_cases hkm : k' < m'
                        · have hkm' : (k' : Int) < (m' : Int) := by omega
                          have hk0 : (0 : Int) ≤ (k' : Int) := by omega
                          obtain ⟨b5, o5, rfl, hlc⟩ := HZ.out.at (k := k') (by rw [HM.out]; exact hkm)
                          obtain ⟨q0, q1, q2⟩ := hlc _ hbr.out
                          obtain ⟨p0, p1, p2⟩ := HR.out.cells HIi.out
                          rw [HX.out] at p0 p1 p2
                          have hst := S.count_step (l := l) (x := (x0, x1, x2)) (k := k') (by rw [HM.out]; exact hkm)
                          have hrl : (l.take k').count (x0, x1, x2) ≤ k' := Nat.le_trans List.count_le_length (by rw [List.length_take]; omega)
                          have hr2 : r2 ≤ 120 := by have := HK.out; omega
                          have hq := rw_eql (l[k']'(by rw [HM.out]; exact hkm)) (x0, x1, x2)
                          obtain ⟨y, hy⟩ : ∃ y, l[k']'(by rw [HM.out]; exact hkm) = y := ⟨_, rfl⟩
                          rw [hy] at q0 q1 q2 hst hq
                          have hg := fun z z' => rw_guard .eql z z' #[RW.c0 y, RW.c1 y, RW.c2 y] #[RW.c0 (x0, x1, x2), RW.c1 (x0, x1, x2), RW.c2 (x0, x1, x2)]
                          clear hy hlc hrl
                          obtain ⟨y0, y1, y2⟩ := y
                          simp only [RW] at hq hg
                          cases hyx : ((y0, y1, y2) == (x0, x1, x2)) with
                          | true =>
                            rw [hyx] at hst hq
                            have HK2 : Hid (r' + (l.take (k' + 1)).count (x0, x1, x2) = r2 + 1) := by
                              have h1 := HK.out
                              unfold Hid
                              rw [hst, if_pos rfl]
                              omega
                            clear hst hyx HK
                            go_wp2_with fail
                            go_quiet (fail)
                            clear p0 p1 p2 q0 q1 q2 hq hg hcell
                            go_wp2_with fail
                            go_roundw
                            case rel => exact ⟨k' + 1, r2 + 1, by omega, by go_num, by go_num, HK2, HR, Lib.hid (below_next hbr.out (below_drewN _ _))⟩
                            case measure => simp [intOf]; omega
                          | false =>
                            rw [hyx] at hst hq
                            have HK2 : Hid (r' + (l.take (k' + 1)).count (x0, x1, x2) = r2) := by
                              have h1 := HK.out
                              unfold Hid
                              rw [hst, if_neg (by decide)]
                              omega
                            clear hst hyx HK
                            go_wp2_with fail
                            go_quiet (fail)
                            clear p0 p1 p2 q0 q1 q2 hq hg hcell
                            go_wp2_with fail
                            go_roundw
                            case rel => exact ⟨k' + 1, r2, by omega, by go_num, rfl, HK2, HR, Lib.hid (below_next hbr.out (below_drewN _ _))⟩
                            case measure => simp [intOf]; omega
                        · obtain rfl : k' = m' := by omega
                          have HK2 : Hid ((rows.take (j' + 1)).flatten.count (x0, x1, x2) = r2) := by
                            have h1 := HK.out
                            rw [List.take_of_length_le (by rw [HM.out]; exact Nat.le_refl _)] at h1
                            unfold Hid
                            rw [HCF.out]
                            exact h1
                          clear HK HCF
                          go_wp2_with fail
                          go_roundw
                          case rel => exact ⟨j' + 1, r2, by omega, by go_num, rfl, HK2, HR, hbr⟩
                          case measure => simp [intOf]; omega
                    · obtain rfl : j' = n := by omega
                      rw [List.take_of_length_le (by rw [HN.out]; exact Nat.le_refl _)] at HK
                      obtain rfl : r = r' := HK1.out.symm.trans HK.out
                      clear HK HK1
                      by_cases hi0' : 0 < i
                      · obtain ⟨q, hq⟩ : ∃ q, q + 1 = i := ⟨i - 1, by omega⟩
                        have hgt : (0 : Int) < (i : Int) := by omega
                        have hq0 : (0 : Int) ≤ (q : Int) := by omega
                        have hqs : (q : Int) < (j : Int) := by omega
                        have i7 : IntKind.i64.wrap ((i : Int) - 1) = (q : Int) := by rw [IntKind.wrap_i64] <;> omega
                        have HQ : Hid (q < D2.length) := by have := HIi.out; unfold Hid; omega
                        have hls := HLs.out q hq
                        have LC := Lib.hid (fun W => rlt_any (x0, x1, x2) (D2[q]'HQ.out) W)
                        obtain ⟨y, hy⟩ : ∃ y, D2[q]'HQ.out = y := ⟨_, rfl⟩
                        have HY := Lib.hid hy
                        rw [hy] at hls LC
                        rw [hls] at LC
                        clear hls hy
                        obtain ⟨y0, y1, y2⟩ := y
                        have LC : Hid (∀ W, Calls Try.prog 9 #[.agg #[.string (str x0), .int .i64 x1, .string (str x2)], .agg #[.string (str y0), .int .i64 y1, .string (str y2)]] W fun e w' => e = .returned (.bool false) ∧ Ext W w') := LC
                        go_wp2_with fail
                        refine wp_region_mix ext_grow [(0, false), (1, false), (2, false), (3, false), (4, false), (5, false), (6, false), (7, false), (8, false), (9, false), (10, false), (11, false), (12, false), (13, false), (14, false), (15, false), (16, false), (17, false), (18, false)] (by kernel_rfl) (by kernel_rfl) ?_
                        have HRd : Hid (Rs wr.drew (.slice (some ⟨b9, o9, none⟩) j cap9) D2) := HR.out
                        have hbd : Hid (Below w.heap.size w wr.drew) := hbr.out.drew
                        clear HR hbr
                        generalize wr.drew = wd at *
                        have G0 : Hid (∀ x : Later wd, Rs x.1 (.slice (some ⟨b9, o9, none⟩) j cap9) D2) := fun x => Three.Ss.below HRd.out x.2
                        have p0 : ∀ x : Later wd, x.1.cell? ⟨b9, o9 + i * 3, none⟩ = some (.string (str x0)) := fun x => by have := ((G0.out x).cells HIi.out).1; rw [HX.out] at this; exact this
                        have p1 : ∀ x : Later wd, x.1.cell? ⟨b9, o9 + i * 3 + 1, none⟩ = some (.int .i64 x1) := fun x => by have := ((G0.out x).cells HIi.out).2.1; rw [HX.out] at this; exact this
                        have p2 : ∀ x : Later wd, x.1.cell? ⟨b9, o9 + i * 3 + 2, none⟩ = some (.string (str x2)) := fun x => by have := ((G0.out x).cells HIi.out).2.2; rw [HX.out] at this; exact this
                        have q0 : ∀ x : Later wd, x.1.cell? ⟨b9, o9 + q * 3, none⟩ = some (.string (str y0)) := fun x => by have := ((G0.out x).cells HQ.out).1; rw [HY.out] at this; exact this
                        have q1 : ∀ x : Later wd, x.1.cell? ⟨b9, o9 + q * 3 + 1, none⟩ = some (.int .i64 y1) := fun x => by have := ((G0.out x).cells HQ.out).2.1; rw [HY.out] at this; exact this
                        have q2 : ∀ x : Later wd, x.1.cell? ⟨b9, o9 + q * 3 + 2, none⟩ = some (.string (str y2)) := fun x => by have := ((G0.out x).cells HQ.out).2.2; rw [HY.out] at this; exact this
                        repeat (refine mix_soft rfl (fun K hK => ?_); go_simp; (first | (refine hK _ ?_; clear hK K) | (apply Exists.intro; refine ⟨fun x => ?_, hK _ ?_⟩; (first | (go_at_call 9; with_reducible exact LC.out _)); clear hK K)))
                        clear p0 p1 p2 q0 q1 q2 LC G0
                        refine mix_done fun we hx => ?_
                        have HRe := Lib.hid (Three.Ss.below HRd.out hx)
                        have hbe := Lib.hid (below_next hbd.out hx)
                        clear hx HRd hbd
                        go_wp2_with fail
                        go_roundw
                        case rel => exact ⟨i + 1, by omega, by go_num, HRe, hbe⟩
                        case measure => simp [intOf]; omega
                      · obtain rfl : i = 0 := by omega
                        go_wp2_with fail
                        refine wp_region_mix ext_grow [(0, false), (1, false), (2, false), (3, false), (4, false), (5, false), (6, false), (7, false), (8, false), (9, false), (10, false), (11, false), (12, false), (13, false), (14, false), (15, false), (16, false), (17, false), (18, false)] (by kernel_rfl) (by kernel_rfl) ?_
                        have HRd : Hid (Rs wr.drew (.slice (some ⟨b9, o9, none⟩) j cap9) D2) := HR.out
                        have hbd : Hid (Below w.heap.size w wr.drew) := hbr.out.drew
                        clear HR hbr
                        generalize wr.drew = wd at *
                        repeat (refine mix_soft rfl (fun K hK => ?_); go_simp; (first | (refine hK _ ?_; clear hK K) | (apply Exists.intro; refine ⟨fun x => ?_, hK _ ?_⟩; (first | done); clear hK K)))
                        refine mix_done fun we hx => ?_
                        have HRe := Lib.hid (Three.Ss.below HRd.out hx)
                        have hbe := Lib.hid (below_next hbd.out hx)
                        clear hx HRd hbd
                        go_wp2_with fail
                        go_roundw
                        case rel => exact ⟨1, by omega, by go_num, HRe, hbe⟩
                        case measure => simp [intOf]; omega
            · have his' : ¬ ((i : Int) < (s : Int)) := by omega
              go_wp2_with fail
              go_ret
              exact ⟨rfl, hbr.out⟩
end Go.Proofs.Ytgipmbphbcnhcaa
