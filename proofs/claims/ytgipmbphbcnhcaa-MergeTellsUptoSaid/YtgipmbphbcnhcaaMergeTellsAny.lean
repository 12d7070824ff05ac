/- MergeTells returns true. -/
import Derived.Test.YtgipmbphbcnhcaaRwAwake
import Derived.Test.YtgipmbphbcnhcaaRwSmall
namespace Go.Proofs.Ytgipmbphbcnhcaa
open Go Go.RowKit

set_option maxRecDepth 4000 in
set_option maxHeartbeats 4000000 in
theorem mtells_any (v : Value) (rows : List (List Rw)) (most : Int) (w : World) (h : Vs w v rows) (hl : rows.length + rows.flatten.length ≤ 4611686018427387904) :
    Calls Try.prog 3 #[v, .int .i64 most] w fun e w' => e = .returned (.bool true) ∧ Below w.heap.size w w' := by
  have HA := Lib.hid (awake_any w)
  have HS := Lib.hid (fun W (hW : Below w.heap.size w W) => small_any v rows W (h.below hW) hl)
  have HU := Lib.hid (fun (hs : rows.length + rows.flatten.length ≤ 120) W (hW : Below w.heap.size w W) => And.intro (union_any v rows most W (h.below hW) (by omega)) (refUnion_any v rows most W (h.below hW) (by omega)))
  clear h hl
  go_enter Try.func3, Try.ntmps3
  go_wp2_with fail
  refine HA.out.mono ?_
  rintro e w1 ⟨rfl, hb1⟩
  have s := Lib.hid (HS.out w1 hb1)
  clear HA HS
  go_wp2_with fail
  refine s.out.mono ?_
  rintro e w2 ⟨b, rfl, hbt, hx⟩
  have hb2 := below_next hb1 hx
  clear hb1 hx s
  cases b with
  | false =>
    clear HU hbt
    go_wp2_with fail
    go_ret
    exact ⟨rfl, hb2⟩
  | true =>
    have HU2 := Lib.hid (HU.out (hbt rfl))
    have s := Lib.hid (HU2.out w2 hb2).1
    have h120 := hbt rfl
    clear hbt HU
    go_wp2_with fail
    refine s.out.mono ?_
    rintro e w3 ⟨v3, C, rfl, hC, hr, hx⟩
    have hb3 := Lib.hid (below_next hb2 hx)
    have HC := Lib.hid hC
    have hCl := hC.len
    obtain ⟨L, hL⟩ : ∃ L, C.take (S.upto most C.length) = L := ⟨_, rfl⟩
    rw [hL] at hr
    have HL := Lib.hid hL
    have HR := Lib.hid hr
    have hN : L.length ≤ 120 := by rw [← hL, List.length_take]; omega
    obtain ⟨ao, cap, rfl, -⟩ := hr.shape
    obtain ⟨N, hNn⟩ : ∃ N, L.length = N := ⟨_, rfl⟩
    have HNN := Lib.hid hNn
    rw [hNn] at HR hN ⊢
    clear hC hr hx s hL hCl hNn hb2
    go_wp2_with fail
    go_loopw [8] (fun u wr => ∃ i : Nat, i ≤ N ∧ u = .int .i64 i ∧ Hid (Rs wr (.slice ao N cap) L) ∧ Hid (Below w.heap.size w wr)) (fun u _ => N - (intOf u).toNat)
    case atStart => exact ⟨0, by omega, rfl, HR, hb3⟩
    case round =>
      clear HR hb3
      obtain ⟨i, hi, rfl, HR, hbr⟩ := hrel
      have f0 : IntKind.i64.wrap ((i : Int) + 1) = ((i + 1 : Nat) : Int) := by rw [IntKind.wrap_i64] <;> omega
      by_cases hlt : i + 1 < N
      · obtain ⟨q, hq⟩ : ∃ q, i + 1 = q := ⟨_, rfl⟩
        obtain ⟨b, off, rfl, h0⟩ := HR.out.at (k := i) (by rw [HNN.out]; omega)
        obtain ⟨b', off', e, h1⟩ := HR.out.at (k := q) (by rw [HNN.out]; omega)
        obtain ⟨rfl, rfl⟩ : b = b' ∧ off = off' := by simpa using e
        obtain ⟨x, hx⟩ : ∃ x, L[i]'(by rw [HNN.out]; omega) = x := ⟨_, rfl⟩
        obtain ⟨y, hy⟩ : ∃ y, L[q]'(by rw [HNN.out]; omega) = y := ⟨_, rfl⟩
        rw [hx] at h0
        rw [hy] at h1
        have H0 := Lib.hid h0
        have H1 := Lib.hid h1
        clear e h0 h1 hx hy
        have LA := Lib.hid (fun W => rlt_any x y W)
        have LB := Lib.hid (fun W => rlt_any y x W)
        have RA := Lib.hid (fun W => refLess_any x y W)
        have RB := Lib.hid (fun W => refLess_any y x W)
        obtain ⟨x0, x1, x2⟩ := x
        obtain ⟨y0, y1, y2⟩ := y
        generalize S.rlt (x0, x1, x2) (y0, y1, y2) = c1 at *
        generalize S.rlt (y0, y1, y2) (x0, x1, x2) = c2 at *
        have LA : Hid (∀ W, Calls Try.prog 9 #[.agg #[.string (str x0), .int .i64 x1, .string (str x2)], .agg #[.string (str y0), .int .i64 y1, .string (str y2)]] W fun e w' => e = .returned (.bool c1) ∧ Ext W w') := LA
        have LB : Hid (∀ W, Calls Try.prog 9 #[.agg #[.string (str y0), .int .i64 y1, .string (str y2)], .agg #[.string (str x0), .int .i64 x1, .string (str x2)]] W fun e w' => e = .returned (.bool c2) ∧ Ext W w') := LB
        have RA : Hid (∀ W, Calls Try.prog 10 #[.agg #[.string (str x0), .int .i64 x1, .string (str x2)], .agg #[.string (str y0), .int .i64 y1, .string (str y2)]] W fun e w' => e = .returned (.bool c1) ∧ Ext W w') := RA
        have RB : Hid (∀ W, Calls Try.prog 10 #[.agg #[.string (str y0), .int .i64 y1, .string (str y2)], .agg #[.string (str x0), .int .i64 x1, .string (str x2)]] W fun e w' => e = .returned (.bool c2) ∧ Ext W w') := RB
        have n1 : (c1 != c1) = false := by simp
        have n2 : (c2 != c2) = false := by simp
        rw [hq] at f0 hlt
        have i1 : (i : Int) < (N : Int) := by omega
        have i2 : (q : Int) < (N : Int) := by omega
        have i3 : (0 : Int) ≤ (i : Int) := by omega
        have i4 : (0 : Int) ≤ (q : Int) := by omega
        go_wp2_with fail
        refine wp_region_mix ext_grow [(0, false), (1, false), (2, false), (3, false), (4, false), (5, false), (6, false), (7, false), (8, false), (9, false), (10, false), (11, false), (12, false), (13, false), (14, false), (15, false), (16, false), (17, false), (18, false), (19, false), (20, false), (21, false), (22, false), (23, false), (24, false), (25, false), (26, false), (27, false), (28, false), (29, false), (30, false), (31, false), (32, false), (33, false), (34, false), (35, false), (36, false), (37, false), (38, false), (39, false), (40, false), (41, false), (42, false), (43, false)] (by kernel_rfl) (by kernel_rfl) ?_
        have HR0 : Hid (Rs wr.drew (.slice (some ⟨b, off, none⟩) N cap) L) := HR.out
        have hb4 : Hid (Below w.heap.size w wr.drew) := hbr.out.drew
        have G0 := fun W (hW : Below wr.drew.heap.size wr.drew W) => H0.out W (below_next (below_drewN wr 1) hW)
        have G1 := fun W (hW : Below wr.drew.heap.size wr.drew W) => H1.out W (below_next (below_drewN wr 1) hW)
        clear H0 H1 HR hbr
        generalize wr.drew = w0 at *
        have p0 : ∀ x : Later w0, x.1.cell? ⟨b, off + i * 3, none⟩ = some (.string (str x0)) := fun x => (G0 x.1 x.2).1
        have p1 : ∀ x : Later w0, x.1.cell? ⟨b, off + i * 3 + 1, none⟩ = some (.int .i64 x1) := fun x => (G0 x.1 x.2).2.1
        have p2 : ∀ x : Later w0, x.1.cell? ⟨b, off + i * 3 + 2, none⟩ = some (.string (str x2)) := fun x => (G0 x.1 x.2).2.2
        have q0 : ∀ x : Later w0, x.1.cell? ⟨b, off + q * 3, none⟩ = some (.string (str y0)) := fun x => (G1 x.1 x.2).1
        have q1 : ∀ x : Later w0, x.1.cell? ⟨b, off + q * 3 + 1, none⟩ = some (.int .i64 y1) := fun x => (G1 x.1 x.2).2.1
        have q2 : ∀ x : Later w0, x.1.cell? ⟨b, off + q * 3 + 2, none⟩ = some (.string (str y2)) := fun x => (G1 x.1 x.2).2.2
        clear G0 G1
        repeat (refine mix_soft rfl (fun K hK => ?_); go_simp; (first | (refine hK _ ?_; clear hK K) | (apply Exists.intro; refine ⟨fun x => ?_, hK _ ?_⟩; (first | (go_at_call 9; (first | with_reducible exact LA.out _ | with_reducible exact LB.out _)) | (go_at_call 10; (first | with_reducible exact RA.out _ | with_reducible exact RB.out _))); clear hK K)))
        refine mix_done fun w4 hb5 => ?_
        have hb6 := Lib.hid (below_next hb4.out hb5)
        have HR4 := Lib.hid (Three.Ss.below HR0.out hb5)
        clear p0 p1 p2 q0 q1 q2 LA LB RA RB hb4 hb5 HR0 n1 n2
        go_wp2_with fail
        go_roundw
        case rel => exact ⟨q, by omega, by go_num, HR4, hb6⟩
        case measure => simp [intOf]; omega
      · have hlt' : ¬ ((i : Int) + 1 < (N : Int)) := by omega
        have s := Lib.hid (HU2.out wr hbr.out).2
        clear HU2 f0
        go_wp2_with fail
        refine s.out.mono ?_
        rintro e w5 ⟨v5, C', rfl, hC', hr', hx⟩
        obtain rfl := hC'.eq HC.out
        rw [HL.out] at hr'
        have hb6 := Lib.hid (below_next hbr.out hx)
        have s2 := Lib.hid (rwSame_any _ _ L L w5 (Three.Ss.below HR.out hx) hr')
        clear hC' hr' hx s HR hbr
        go_wp2_with fail
        refine s2.out.mono ?_
        rintro e w6 ⟨rfl, hx⟩
        have hb7 := Lib.hid (below_next hb6.out hx)
        have hll : (L == L) = true := by simp
        rw [hll]
        go_wp2_with fail
        go_ret
        exact ⟨rfl, hb7.out⟩
end Go.Proofs.Ytgipmbphbcnhcaa
