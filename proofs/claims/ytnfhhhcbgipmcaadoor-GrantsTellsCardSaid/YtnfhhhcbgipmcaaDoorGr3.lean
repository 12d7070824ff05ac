/- What May and Same return, both ways. -/
import Derived.Test.YtnfhhhcbgipmcaaDoorGr2
namespace Go.Proofs.YtnfhhhcbgipmcaaDoor
open Go Go.RowKit

theorem contains_iff {l : List Gr} {g : Gr} : l.contains g = true ↔ g ∈ l := by simp
theorem contains_no {l : List Gr} {g : Gr} (h : ∀ i (hi : i < l.length), l[i] ≠ g) : l.contains g = false := by
  cases hc : l.contains g with
  | false => rfl
  | true =>
    obtain ⟨i, hi, e⟩ := List.getElem_of_mem (contains_iff.1 hc)
    exact absurd e (h i hi)
theorem contains_yes {l : List Gr} {g : Gr} {i : Nat} (hi : i < l.length) (h : l[i] = g) : l.contains g = true := contains_iff.2 (h ▸ List.getElem_mem hi)
theorem no_more {l : List Gr} {g : Gr} {k : Nat} (h : ∀ i (_ : i < l.length), i < k → l[i] ≠ g) (hk : k < l.length) (hg : l[k] ≠ g) : ∀ i (_ : i < l.length), i < k + 1 → l[i] ≠ g := fun i hi hik => by
  by_cases e : i = k
  · subst e; exact hg
  · exact h i hi (by omega)

set_option maxHeartbeats 1000000 in
theorem gindex_any (v : Value) (l : List Gr) (g : Gr) (w : World) (h : Gs w v l) :
    Calls Tryd.prog 81 #[v, gv g] w fun e w' => ∃ r : Int, e = .returned (.int .i64 r) ∧ Hid (decide (0 ≤ r) = l.contains g) ∧ Below w.heap.size w w' := by
  have hbig := h.len
  obtain ⟨ao, cap, rfl, -⟩ := h.shape
  have hb1 := (Below.refl w.heap.size w).alloc (Nat.le_refl _) (.cells #[.int .i64 g.1, .int .i64 g.2.1, .int .i64 g.2.2] 47)
  have HB := Lib.hid (Three.Ss.below h ((Below.refl w.heap.size w).alloc (Nat.le_refl _) (.cells #[.int .i64 g.1, .int .i64 g.2.1, .int .i64 g.2.2] 47)))
  obtain ⟨a0, a1, a2⟩ := g
  obtain ⟨N, hN⟩ : ∃ N, l.length = N := ⟨_, rfl⟩
  have HN := Lib.hid hN
  rw [hN] at hbig HB ⊢
  clear h hN
  go_enter Tryd.func81, Tryd.ntmps81
  go_wp2_with fail
  have HX : Hid (Bx (w.alloc (.cells #[.int .i64 a0, .int .i64 a1, .int .i64 a2] 47)) w.heap.size 47 (.int .i64 a0) (.int .i64 a1) (.int .i64 a2)) := heap_alloc_new _ _
  replace hb1 := Lib.hid hb1
  generalize w.alloc (.cells #[.int .i64 a0, .int .i64 a1, .int .i64 a2] 47) = w1 at *
  obtain ⟨B, hB⟩ : ∃ B, w.heap.size = B := ⟨_, rfl⟩
  rw [hB] at HX
  rw [hB]
  clear hB
  go_loopw [8] (fun i wr => ∃ k : Nat, k ≤ N ∧ i = .int .i64 k ∧ Hid (∀ i (_ : i < l.length), i < k → l[i] ≠ (a0, a1, a2)) ∧ Hid (Below w1.heap.size w1 wr)) (fun i _ => N - (intOf i).toNat)
  case atStart => exact ⟨0, by omega, rfl, fun i _ hi => absurd hi (Nat.not_lt_zero _), Below.refl _ _⟩
  case round =>
    obtain ⟨k, hk, rfl, hno, hbr⟩ := hrel
    by_cases hkN : k < N
    · have hkl : k < l.length := by have := HN.out; omega
      obtain ⟨c0, c1, c2⟩ := (Bx.later HX.out hbr.out).cells
      obtain ⟨b, off, rfl, hc⟩ := Gs.at3 (Three.Ss.below HB.out hbr.out) hkl
      obtain ⟨p0, p1, p2⟩ := hc k hkl
      have hyes := Lib.hid (contains_yes (g := (a0, a1, a2)) hkl)
      have hnext := Lib.hid (no_more hno.out hkl)
      obtain ⟨y, hy⟩ : ∃ y, l[k] = y := ⟨_, rfl⟩
      rw [hy] at p0 p1 p2 hyes hnext
      clear hy hno hc hkl
      have hq := gr_eql (a0, a1, a2) y
      have hg := fun u z => gr_guard .eql u z #[.int .i64 a0, .int .i64 a1, .int .i64 a2] #[.int .i64 y.1, .int .i64 y.2.1, .int .i64 y.2.2]
      obtain ⟨y0, y1, y2⟩ := y
      unfold gv at hq
      simp only [] at p0 p1 p2 hq hg
      cases he : ((a0, a1, a2) == (y0, y1, y2)) with
      | true =>
        rw [he] at hq
        have hfin : Hid (decide ((0 : Int) ≤ (k : Int)) = l.contains (a0, a1, a2)) := by
          unfold Hid
          rw [beq_iff_eq] at he
          rw [hyes.out he.symm]
          simp
        clear hyes hnext he
        go_wp2_with fail
        go_quiet (fail)
        clear p0 p1 p2 hq hg c0 c1 c2
        go_wp2_with fail
        go_ret
        exact ⟨_, rfl, hfin, below_next (below_next hb1.out hbr.out) (below_drewN _ _)⟩
      | false =>
        rw [he] at hq
        have hne : Hid (∀ i (_ : i < l.length), i < k + 1 → l[i] ≠ (a0, a1, a2)) := hnext.out (by rintro h; rw [beq_eq_false_iff_ne] at he; exact he h.symm)
        clear hyes hnext he
        go_wp2_with fail
        go_quiet (fail)
        clear p0 p1 p2 hq hg c0 c1 c2
        go_wp2_with fail
        go_roundw
        case rel => exact ⟨k + 1, by omega, by go_num, hne, below_next hbr.out (below_drewN _ _)⟩
        case measure => simp [intOf]; omega
    · have hfin : Hid (decide ((0 : Int) ≤ -1) = l.contains (a0, a1, a2)) := by
        unfold Hid
        rw [contains_no fun i hi => hno.out i hi (by have := HN.out; omega)]
        rfl
      go_wp2_with fail
      go_ret
      exact ⟨_, rfl, hfin, below_next hb1.out hbr.out⟩

set_option maxHeartbeats 1000000 in
theorem gcontains_any (v : Value) (l : List Gr) (g : Gr) (w : World) (h : Gs w v l) :
    Calls Tryd.prog 68 #[v, gv g] w fun e w' => e = .returned (.bool (l.contains g)) ∧ Below w.heap.size w w' := by
  have hb1 := (Below.refl w.heap.size w).alloc (Nat.le_refl _) (.cells #[.int .i64 g.1, .int .i64 g.2.1, .int .i64 g.2.2] 47)
  have HI := Lib.hid (gindex_any v l g _ (Three.Ss.below h hb1))
  obtain ⟨a0, a1, a2⟩ := g
  replace hb1 := Lib.hid hb1
  clear h
  generalize l.contains (a0, a1, a2) = q at *
  go_enter Tryd.func68, Tryd.ntmps68
  go_wp2_with fail
  refine HI.out.mono ?_
  rintro e w2 ⟨r, rfl, hr, hb⟩
  have hfin := Lib.hid (below_next hb1.out hb)
  clear hb hb1 HI
  go_wp2_with fail
  go_ret
  exact ⟨by rw [← hr.out]; rfl, hfin.out⟩

set_option maxHeartbeats 1000000 in
theorem may_any (v : Value) (l : List Gr) (g : Gr) (w : World) (h : Gs w v l) :
    Calls Tryd.prog 38 #[v, gv g] w fun e w' => e = .returned (.bool (l.contains g)) ∧ Below w.heap.size w w' := by
  have hb1 := (Below.refl w.heap.size w).alloc (Nat.le_refl _) (.cells #[.int .i64 g.1, .int .i64 g.2.1, .int .i64 g.2.2] 47)
  have HI := Lib.hid (gcontains_any v l g _ (Three.Ss.below h hb1))
  obtain ⟨a0, a1, a2⟩ := g
  replace hb1 := Lib.hid hb1
  clear h
  generalize l.contains (a0, a1, a2) = q at *
  go_enter Tryd.func38, Tryd.ntmps38
  go_wp2_with fail
  refine HI.out.mono ?_
  rintro e w2 ⟨rfl, hb⟩
  have hfin := Lib.hid (below_next hb1.out hb)
  clear hb hb1 HI
  go_wp2_with fail
  go_ret
  exact ⟨rfl, hfin.out⟩

set_option maxHeartbeats 1000000 in
theorem refMay_any (v : Value) (l : List Gr) (g : Gr) (w : World) (h : Gs w v l) :
    Calls Tryd.prog 39 #[v, gv g] w fun e w' => e = .returned (.bool (l.contains g)) ∧ Below w.heap.size w w' := by
  have hbig := h.len
  obtain ⟨ao, cap, rfl, -⟩ := h.shape
  have hb1 := (Below.refl w.heap.size w).alloc (Nat.le_refl _) (.cells #[.int .i64 g.1, .int .i64 g.2.1, .int .i64 g.2.2] 47)
  have HB := Lib.hid (Three.Ss.below h ((Below.refl w.heap.size w).alloc (Nat.le_refl _) (.cells #[.int .i64 g.1, .int .i64 g.2.1, .int .i64 g.2.2] 47)))
  obtain ⟨a0, a1, a2⟩ := g
  obtain ⟨N, hN⟩ : ∃ N, l.length = N := ⟨_, rfl⟩
  have HN := Lib.hid hN
  rw [hN] at hbig HB ⊢
  clear h hN
  go_enter Tryd.func39, Tryd.ntmps39
  go_wp2_with fail
  have HX : Hid (Bx (w.alloc (.cells #[.int .i64 a0, .int .i64 a1, .int .i64 a2] 47)) w.heap.size 47 (.int .i64 a0) (.int .i64 a1) (.int .i64 a2)) := heap_alloc_new _ _
  replace hb1 := Lib.hid hb1
  generalize w.alloc (.cells #[.int .i64 a0, .int .i64 a1, .int .i64 a2] 47) = w1 at *
  obtain ⟨B, hB⟩ : ∃ B, w.heap.size = B := ⟨_, rfl⟩
  rw [hB] at HX
  rw [hB]
  clear hB
  go_loopw [5] (fun i wr => ∃ k : Nat, k ≤ N ∧ i = .int .i64 k ∧ Hid (∀ i (_ : i < l.length), i < k → l[i] ≠ (a0, a1, a2)) ∧ Hid (Below w1.heap.size w1 wr)) (fun i _ => N - (intOf i).toNat)
  case atStart => exact ⟨0, by omega, rfl, fun i _ hi => absurd hi (Nat.not_lt_zero _), Below.refl _ _⟩
  case round =>
    obtain ⟨k, hk, rfl, hno, hbr⟩ := hrel
    by_cases hkN : k < N
    · have hkl : k < l.length := by have := HN.out; omega
      obtain ⟨c0, c1, c2⟩ := (Bx.later HX.out hbr.out).cells
      obtain ⟨b, off, rfl, hc⟩ := Gs.at3 (Three.Ss.below HB.out hbr.out) hkl
      obtain ⟨p0, p1, p2⟩ := hc k hkl
      have hyes := Lib.hid (contains_yes (g := (a0, a1, a2)) hkl)
      have hnext := Lib.hid (no_more hno.out hkl)
      obtain ⟨y, hy⟩ : ∃ y, l[k] = y := ⟨_, rfl⟩
      rw [hy] at p0 p1 p2 hyes hnext
      clear hy hno hc hkl
      have hq := gr_eql y (a0, a1, a2)
      have hg := fun u z => gr_guard .eql u z #[.int .i64 y.1, .int .i64 y.2.1, .int .i64 y.2.2] #[.int .i64 a0, .int .i64 a1, .int .i64 a2]
      obtain ⟨y0, y1, y2⟩ := y
      unfold gv at hq
      simp only [] at p0 p1 p2 hq hg
      cases he : ((y0, y1, y2) == (a0, a1, a2)) with
      | true =>
        rw [he] at hq
        have hfin : Hid (l.contains (a0, a1, a2) = true) := by
          unfold Hid
          rw [beq_iff_eq] at he
          rw [hyes.out he]
        clear hyes hnext he
        go_wp2_with fail
        go_quiet (fail)
        clear p0 p1 p2 hq hg c0 c1 c2
        go_wp2_with fail
        go_ret
        exact ⟨by rw [hfin.out]; rfl, below_next (below_next hb1.out hbr.out) (below_drewN _ _)⟩
      | false =>
        rw [he] at hq
        have hne : Hid (∀ i (_ : i < l.length), i < k + 1 → l[i] ≠ (a0, a1, a2)) := hnext.out (by rintro h; rw [beq_eq_false_iff_ne] at he; exact he h)
        clear hyes hnext he
        go_wp2_with fail
        go_quiet (fail)
        clear p0 p1 p2 hq hg c0 c1 c2
        go_wp2_with fail
        go_roundw
        case rel => exact ⟨k + 1, by omega, by go_num, hne, below_next hbr.out (below_drewN _ _)⟩
        case measure => simp [intOf]; omega
    · have hfin : Hid (l.contains (a0, a1, a2) = false) := contains_no fun i hi => hno.out i hi (by have := HN.out; omega)
      go_wp2_with fail
      go_ret
      exact ⟨by rw [hfin.out]; rfl, below_next hb1.out hbr.out⟩

set_option maxHeartbeats 1000000 in
theorem gsame_any (v1 v2 : Value) (l m : List Gr) (w : World) (h1 : Gs w v1 l) (h2 : Gs w v2 m) :
    Calls Tryd.prog 48 #[v1, v2] w fun e w' => e = .returned (.bool (l == m)) ∧ Below w.heap.size w w' := by
  have hbig := h1.len
  obtain ⟨ao1, cap1, rfl, -⟩ := h1.shape
  obtain ⟨ao2, cap2, rfl, -⟩ := h2.shape
  by_cases hlen : l.length = m.length
  · have hne : ((l.length : Int) != (m.length : Int)) = false := by rw [bne_eq_false_iff_eq]; omega
    have H1 := Lib.hid h1
    have H2 := Lib.hid h2
    clear h1 h2
    obtain ⟨N, hN⟩ : ∃ N, l.length = N := ⟨_, rfl⟩
    have hM := hlen.symm.trans hN
    rw [hN] at hne hbig H1 ⊢
    rw [hM] at hne H2 ⊢
    go_enter Tryd.func48, Tryd.ntmps48
    go_wp2_with fail
    go_loopw [5] (fun i wr => ∃ k : Nat, k ≤ N ∧ i = .int .i64 k ∧ Hid (l.take k = m.take k) ∧ Below w.heap.size w wr) (fun i _ => N - (intOf i).toNat)
    case atStart => exact ⟨0, by omega, rfl, rfl, Below.refl _ _⟩
    case round =>
      obtain ⟨k, hk, rfl, hr, hbr⟩ := hrel
      by_cases hkl : k < N
      · obtain ⟨b1, o1, rfl, hc1⟩ := Gs.at3 (Three.Ss.below H1.out hbr) (j := k) (by omega)
        obtain ⟨b2, o2, rfl, hc2⟩ := Gs.at3 (Three.Ss.below H2.out hbr) (j := k) (by omega)
        obtain ⟨p0, p1, p2⟩ := hc1 k (by omega)
        obtain ⟨q0, q1, q2⟩ := hc2 k (by omega)
        have hyes : Hid (l[k] = m[k] → l.take (k + 1) = m.take (k + 1)) := fun h => by
          rw [List.take_succ_eq_append_getElem (by omega), List.take_succ_eq_append_getElem (by omega), hr.out, h]
        have hno : Hid (l[k] ≠ m[k] → (l == m) = false) := fun h => by
          rw [beq_eq_false_iff_ne]
          rintro rfl
          exact h rfl
        clear hc1 hc2
        obtain ⟨x, hx⟩ : ∃ x, l[k] = x := ⟨_, rfl⟩
        obtain ⟨y, hy⟩ : ∃ y, m[k] = y := ⟨_, rfl⟩
        rw [hx] at p0 p1 p2
        rw [hy] at q0 q1 q2
        rw [hx, hy] at hyes hno
        clear hx hy
        have hq := gr_ne x y
        have hg := fun u z => gr_guard .neq u z #[.int .i64 x.1, .int .i64 x.2.1, .int .i64 x.2.2] #[.int .i64 y.1, .int .i64 y.2.1, .int .i64 y.2.2]
        obtain ⟨x0, x1, x2⟩ := x
        obtain ⟨y0, y1, y2⟩ := y
        unfold gv at hq
        simp only [] at p0 p1 p2 q0 q1 q2 hq hg
        cases he : ((x0, x1, x2) != (y0, y1, y2)) with
        | true =>
          rw [he] at hq
          have hfin : Hid ((l == m) = false) := hno.out (by rwa [bne_iff_ne] at he)
          clear hyes hno he
          go_wp2_with fail
          go_quiet (fail)
          clear p0 p1 p2 q0 q1 q2 hq hg
          go_wp2_with fail
          go_ret
          exact ⟨by rw [hfin.out]; rfl, below_next hbr (below_drewN _ _)⟩
        | false =>
          rw [he] at hq
          have hfin : Hid (l.take (k + 1) = m.take (k + 1)) := hyes.out (by rwa [bne_eq_false_iff_eq] at he)
          clear hyes hno he
          go_wp2_with fail
          go_quiet (fail)
          clear p0 p1 p2 q0 q1 q2 hq hg
          go_wp2_with fail
          go_roundw
          case rel => exact ⟨k + 1, by omega, by go_num, hfin, below_next hbr (below_drewN _ _)⟩
          case measure => simp [intOf]; omega
      · have hfin : Hid ((l == m) = true) := by
          unfold Hid
          rw [beq_iff_eq]
          have := hr.out
          rwa [List.take_of_length_le (by omega), List.take_of_length_le (by omega)] at this
        go_wp2_with fail
        go_ret
        exact ⟨by rw [hfin.out]; rfl, hbr⟩
  · have hne : ((l.length : Int) != (m.length : Int)) = true := by rw [bne_iff_ne]; omega
    have hfin : Hid ((l == m) = false) := by
      unfold Hid
      rw [beq_eq_false_iff_ne]
      rintro rfl
      exact hlen rfl
    clear h1 h2 hlen
    go_enter Tryd.func48, Tryd.ntmps48
    go_wp2_with fail
    go_ret
    exact ⟨by rw [hfin.out]; rfl, Below.refl _ _⟩
end Go.Proofs.YtnfhhhcbgipmcaaDoor
