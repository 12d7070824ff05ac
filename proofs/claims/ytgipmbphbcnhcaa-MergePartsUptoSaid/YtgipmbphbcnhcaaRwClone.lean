/- What slices.Clone, IsSortedFunc and SortStableFunc at rows return. -/
import Derived.Test.YtgipmbphbcnhcaaRwStab
namespace Go.Proofs.Ytgipmbphbcnhcaa
open Go Go.RowKit

theorem infoRw : (Try.prog.info? 29).map (fun i => (i.zero, i.size, i.bytes)) = some (some (.agg #[.string (str []), .int .i64 0, .string (str [])]), 3, 40) := by kernel_rfl
theorem rw_oneCell (l : List Rw) : ∀ u ∈ RW.cells l, u.oneCell' = true := by
  intro u hu
  obtain ⟨g, -, h⟩ := List.mem_flatMap.1 hu
  simp only [List.mem_cons, List.not_mem_nil, or_false] at h
  rcases h with rfl | rfl | rfl <;> rfl
abbrev Rs (w : World) (v : Value) (l : List Rw) : Prop := RW.Ss w v l

set_option maxHeartbeats 400000 in
theorem rclone_any (v : Value) (l : List Rw) (w : World) (h : Rs w v l) (hl : l.length ≤ 100000) :
    Calls Try.prog 13 #[v] w fun e w' => ∃ v', e = .returned v' ∧ w'.ownsRow w.heap.size 29 3 v' l.length (RW.cells l) ∧ Below w.heap.size w w' := by
  have q : ∀ (w : World) (a : Option Addr) (n c n' c' : Nat), (binOp .eql 25 (.slice a n c) (.slice none n' c')).run Try.prog w = .ok (.bool a.isNone) w := fun w a n c n' c' => Lib.run_eql_slice_nil w _ _ a n c n' c' Try.underlying25
  obtain ⟨-, ao, cap, rfl, -, -, hn, -⟩ := id h
  cases ao with
  | none =>
    obtain rfl := hn rfl
    obtain rfl : l = [] := by
      obtain ⟨_, ao, cap, e, hc, -⟩ := h
      obtain ⟨-, -, rfl⟩ := Value.slice.inj e
      exact List.eq_nil_of_length_eq_zero (by omega)
    go_enter Try.func13, Try.ntmps13
    go_wp2_with fail
    go_ret
    exact ⟨_, rfl, World.ownsRow_nil _ _ _ _, Below.refl _ _⟩
  | some a =>
    go_enter Try.func13, Try.ntmps13
    have hb0 : Below w.heap.size w (w.alloc (.cells #[] 29)) := (Below.refl _ _).alloc (Nat.le_refl _) _
    have hown0 := Lib.hid (World.ownsRow_made (base := w.heap.size) (e := 29) (size := 3) w #[] 0 (Nat.le_refl _) (Nat.zero_le _) rfl)
    go_wp2_with (at_builtin; go_must (refine wpList_append_sl rfl _ _ 25 rfl w.heap.size 29 _ 3 40 Try.underlying25 infoRw rfl (by decide) _ _ _ rfl hown0.out _ l.length (RW.cells l) rfl (Three.Ss.below h hb0) (rw_oneCell l) (by unfold maxLen; omega) (by omega) hb0.size ?_))
    intro v2 w2 hown2 hgrow _
    have hbel2 := hb0.grown hgrow hb0.size (ownBlock_ge hown0.out)
    try rw [Nat.zero_add, List.nil_append] at hown2
    have HO2 := Lib.hid hown2
    clear hown2 hgrow
    go_wp2_with fail
    go_ret
    exact ⟨_, rfl, HO2.out, hbel2⟩

namespace S
theorem sorted_drop_step {l : List Rw} {k : Nat} (hk : k + 1 < l.length) (h : Sorted (l.drop (k + 1))) (hc : rlt l[k + 1] l[k] = false) : Sorted (l.drop k) := by
  have e1 : l.drop k = l[k] :: l.drop (k + 1) := List.drop_eq_getElem_cons (by omega)
  have e2 : l.drop (k + 1) = l[k + 1] :: l.drop (k + 1 + 1) := List.drop_eq_getElem_cons hk
  rw [e1]
  refine List.pairwise_cons.2 ⟨fun y hy => ?_, h⟩
  rw [e2] at hy h
  rcases List.mem_cons.1 hy with rfl | hy
  · exact hc
  · exact no_lt ((List.pairwise_cons.1 h).1 y hy) hc
end S

set_option maxRecDepth 4000 in
set_option maxHeartbeats 2000000 in
theorem rsorted_any (v : Value) (l : List Rw) (w : World) (h : Rs w v l) (hl : l.length ≤ 1000000) :
    Calls Try.prog 14 #[v, cmpV] w fun e w' => ∃ b, e = .returned (.bool b) ∧ (b = true → S.Sorted l) ∧ (b = false → 0 < l.length) ∧ Below w.heap.size w w' := by
  obtain ⟨ao, cap, rfl, -⟩ := h.shape
  have HL := Lib.hid h
  clear h
  obtain ⟨N, hN⟩ : ∃ N, l.length = N := ⟨_, rfl⟩
  rw [hN] at HL hl ⊢
  by_cases h0 : N = 0
  · subst h0
    obtain rfl : l = [] := List.eq_nil_of_length_eq_zero hN
    clear HL
    go_enter Try.func14, Try.ntmps14
    go_wp2_with fail
    go_loopw [5] (fun i wr => i = .int .i64 (-1) ∧ wr = w) (fun i _ => 0)
    case atStart => exact ⟨rfl, rfl⟩
    case round =>
      obtain ⟨rfl, rfl⟩ := hrel
      go_wp2_with fail
      go_ret
      exact ⟨true, rfl, fun _ => List.Pairwise.nil, (fun h => by cases h), Below.refl _ _⟩
  · obtain ⟨M, hM⟩ : ∃ M, M + 1 = N := ⟨N - 1, by omega⟩
    have f0 : IntKind.i64.wrap ((N : Int) - 1) = (M : Int) := by rw [IntKind.wrap_i64] <;> omega
    go_enter Try.func14, Try.ntmps14
    go_wp2_with fail
    go_loopw [5] (fun i wr => ∃ k : Nat, k < N ∧ i = .int .i64 k ∧ Hid (S.Sorted (l.drop k)) ∧ Hid (Below w.heap.size w wr)) (fun i _ => (intOf i).toNat)
    case atStart =>
      refine ⟨M, by omega, rfl, ?_, Below.refl _ _⟩
      unfold Hid
      rw [List.drop_eq_getElem_cons (by omega), List.drop_eq_nil_of_le (by omega)]
      exact List.pairwise_singleton _ _
    case round =>
      obtain ⟨k, hk, rfl, hs, hbr⟩ := hrel
      clear f0
      by_cases hk0 : 0 < k
      · obtain ⟨j, rfl⟩ : ∃ j, k = j + 1 := ⟨k - 1, by omega⟩
        obtain ⟨b, off, rfl, hc⟩ := Three.Ss.at (HL.out.below hbr.out) (j := j) (by omega)
        clear hc
        have HX := Lib.hid (fun (x : Later wr.drew) => by
          obtain ⟨b', off', e, h⟩ := Three.Ss.at (HL.out.below (below_next hbr.out.drew x.2)) (j := j) (by omega)
          obtain ⟨rfl, rfl⟩ : b = b' ∧ off = off' := by simpa using e
          exact And.intro (h j (by omega)) (h (j + 1) (by omega)))
        have HS : Hid (S.rlt l[j + 1] l[j] = false → S.Sorted (l.drop j)) := fun h => S.sorted_drop_step (by omega) hs.out h
        obtain ⟨x, hx⟩ : ∃ x, l[j + 1] = x := ⟨_, rfl⟩
        obtain ⟨y, hy⟩ : ∃ y, l[j] = y := ⟨_, rfl⟩
        rw [hx] at HS HX
        rw [hy] at HS HX
        clear hx hy
        have HR := Lib.hid (show S.rlt x y = decide (S.rcmp x y < 0) from rfl)
        obtain ⟨x0, x1, x2⟩ := x
        obtain ⟨y0, y1, y2⟩ := y
        have HC : Hid (∀ W, Calls Try.prog 15 #[.agg #[.string (str x0), .int .i64 x1, .string (str x2)], .agg #[.string (str y0), .int .i64 y1, .string (str y2)]] W fun e w' => e = .returned (.int .i64 (S.rcmp (x0, x1, x2) (y0, y1, y2))) ∧ Ext W w') := fun W => rcmp_any (x0, x1, x2) (y0, y1, y2) W
        have HD : Hid (¬ S.rcmp (x0, x1, x2) (y0, y1, y2) < 0 → S.Sorted (l.drop j)) := fun h => HS.out (by rw [HR.out, decide_eq_false_iff_not]; exact h)
        clear HR HS
        generalize S.rcmp (x0, x1, x2) (y0, y1, y2) = r at *
        obtain ⟨q, hq⟩ : ∃ q, j + 1 = q := ⟨_, rfl⟩
        rw [hq] at hk0 hk HX hs ⊢
        have i1 : (j : Int) < (N : Int) := by omega
        have i2 : (q : Int) < (N : Int) := by omega
        have i3 : (0 : Int) ≤ (j : Int) := by omega
        have i4 : (0 : Int) ≤ (q : Int) := by omega
        have i5 : (0 : Int) < (q : Int) := by omega
        have i7 : IntKind.i64.wrap ((q : Int) - 1) = (j : Int) := by rw [IntKind.wrap_i64] <;> omega
        go_wp2_with fail
        refine wp_region_mix ext_grow [(0, false), (1, false), (2, false), (3, false), (4, false), (5, false), (6, false), (7, false), (8, false), (9, false), (10, false), (11, false)] (by kernel_rfl) (by kernel_rfl) ?_
        have hb4 : Hid (Below w.heap.size w wr.drew) := hbr.out.drew
        clear hbr
        generalize wr.drew = w0 at *
        have p0 : ∀ x : Later w0, x.1.cell? ⟨b, off + j * 3, none⟩ = some (.string (str y0)) := fun x => (HX.out x).1.1
        have p1 : ∀ x : Later w0, x.1.cell? ⟨b, off + j * 3 + 1, none⟩ = some (.int .i64 y1) := fun x => (HX.out x).1.2.1
        have p2 : ∀ x : Later w0, x.1.cell? ⟨b, off + j * 3 + 2, none⟩ = some (.string (str y2)) := fun x => (HX.out x).1.2.2
        have q0 : ∀ x : Later w0, x.1.cell? ⟨b, off + q * 3, none⟩ = some (.string (str x0)) := fun x => (HX.out x).2.1
        have q1 : ∀ x : Later w0, x.1.cell? ⟨b, off + q * 3 + 1, none⟩ = some (.int .i64 x1) := fun x => (HX.out x).2.2.1
        have q2 : ∀ x : Later w0, x.1.cell? ⟨b, off + q * 3 + 2, none⟩ = some (.string (str x2)) := fun x => (HX.out x).2.2.2
        clear HX
        by_cases hlr : r < 0
        · repeat (refine mix_soft rfl (fun K hK => ?_); go_simp; (first | (refine hK _ ?_; clear hK K) | (apply Exists.intro; refine ⟨fun x => ?_, hK _ ?_⟩; (first | (go_at_call 15; with_reducible exact HC.out _)); clear hK K)))
          clear p0 p1 p2 q0 q1 q2
          refine mix_done fun w4 hb5 => ?_
          have hb6 := below_next hb4.out hb5
          clear hb4 hb5
          go_wp2_with fail
          go_ret
          exact ⟨false, rfl, (fun h => by cases h), (fun _ => by omega), hb6⟩
        · repeat (refine mix_soft rfl (fun K hK => ?_); go_simp; (first | (refine hK _ ?_; clear hK K) | (apply Exists.intro; refine ⟨fun x => ?_, hK _ ?_⟩; (first | (go_at_call 15; with_reducible exact HC.out _)); clear hK K)))
          clear p0 p1 p2 q0 q1 q2
          refine mix_done fun w4 hb5 => ?_
          have hb6 := Lib.hid (below_next hb4.out hb5)
          have hd := Lib.hid (HD.out (by omega))
          clear hb4 hb5
          go_wp2_with fail
          go_roundw
          case rel => exact ⟨j, by omega, by go_num, hd, hb6⟩
          case measure => simp [intOf]; omega
      · obtain rfl : k = 0 := by omega
        go_wp2_with fail
        go_ret
        exact ⟨true, rfl, fun _ => hs.out, (fun h => by cases h), hbr.out⟩

set_option maxHeartbeats 400000 in
theorem sortstable_any (w : World) (base g n cap : Nat) (l : List Rw) (hs : n ≤ 1000000) (hown : Own w base g n cap l) :
    Calls Try.prog 16 #[.slice (some ⟨g, 0, none⟩) n cap, cmpV] w fun e w' => e = .returned (.tuple #[]) ∧ (∃ C, S.IsSort l C ∧ Own w' base g n cap C) ∧ Below base w w' := by
  have HS := Lib.hid (stable_any w base g n cap l hs hown)
  clear hown
  go_enter Try.func16, Try.ntmps16
  go_wp2_with fail
  refine HS.out.mono ?_
  rintro e w1 ⟨rfl, hC, hb⟩
  have hC := Lib.hid hC
  go_wp2_with fail
  go_end0
  exact ⟨rfl, hC.out, hb⟩
end Go.Proofs.Ytgipmbphbcnhcaa
