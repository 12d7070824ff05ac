/- What May and Same return, both ways. -/
import Derived.Test.YtljpfocmnppjgaaDoorGr2
namespace Go.Proofs.YtljpfocmnppjgaaDoor
open Go Go.RowKit

theorem contains_iff {l : List Gr} {g : Gr} : l.contains g = true ↔ g ∈ l := by simp
theorem contains_no {l : List Gr} {g : Gr} (h : ∀ i (hi : i < l.length), l[i] ≠ g) : l.contains g = false := by
  cases hc : l.contains g with
  | false => rfl
  | true =>
    obtain ⟨i, hi, e⟩ := List.getElem_of_mem (contains_iff.1 hc)
    exact absurd e (h i hi)
theorem contains_yes {l : List Gr} {g : Gr} {i : Nat} (hi : i < l.length) (h : l[i] = g) : l.contains g = true := contains_iff.2 (h ▸ List.getElem_mem hi)
theorem no_more {l : List Gr} {g : Gr} {k : Nat} (h : ∀ i (_ : i < l.length), i < k → l[i] ≠ g) (hk : k < l.length) (hg : l[k] ≠ g) : ∀ i (_ : i < l.length), i < k + 1 → l[i] ≠ g := fun i hi hik => by
  by_cases e : i = k
  · subst e; exact hg
  · exact h i hi (by omega)

set_option maxHeartbeats 1000000 in
theorem gindex_any (v : Value) (l : List Gr) (g : Gr) (w : World) (h : Gs w v l) :
    Calls Tryd.prog 51 #[v, gv g] w fun e w' => ∃ r : Int, e = .returned (.int .i64 r) ∧ Hid (decide (0 ≤ r) = l.contains g) ∧ Below w.heap.size w w' := by
  have hbig := h.len
  obtain ⟨ao, cap, rfl, -⟩ := h.shape
  have hb1 := (Below.refl w.heap.size w).alloc (Nat.le_refl _) (.cells #[.int .i64 g.1, .int .i64 g.2.1, .int .i64 g.2.2] 50)
  have HB := Lib.hid (Three.Ss.below h ((Below.refl w.heap.size w).alloc (Nat.le_refl _) (.cells #[.int .i64 g.1, .int .i64 g.2.1, .int .i64 g.2.2] 50)))
  obtain ⟨a0, a1, a2⟩ := g
  obtain ⟨N, hN⟩ : ∃ N, l.length = N := ⟨_, rfl⟩
  have HN := Lib.hid hN
  rw [hN] at hbig HB ⊢
  clear h hN
  go_enter Tryd.func51, Tryd.ntmps51
  go_wp2_with fail
  have HX : Hid (Bx (w.alloc (.cells #[.int .i64 a0, .int .i64 a1, .int .i64 a2] 50)) w.heap.size 50 (.int .i64 a0) (.int .i64 a1) (.int .i64 a2)) := heap_alloc_new _ _
  replace hb1 := Lib.hid hb1
  generalize w.alloc (.cells #[.int .i64 a0, .int .i64 a1, .int .i64 a2] 50) = w1 at *
  obtain ⟨B, hB⟩ : ∃ B, w.heap.size = B := ⟨_, rfl⟩
  rw [hB] at HX
  rw [hB]
  clear hB
  go_loopw [8] (fun i wr => ∃ k : Nat, k ≤ N ∧ i = .int .i64 k ∧ Hid (∀ i (_ : i < l.length), i < k → l[i] ≠ (a0, a1, a2)) ∧ Hid (Below w1.heap.size w1 wr)) (fun i _ => N - (intOf i).toNat)
  case atStart => exact ⟨0, by omega, rfl, fun i _ hi => absurd hi (Nat.not_lt_zero _), Below.refl _ _⟩
  case round =>
    obtain ⟨k, hk, rfl, hno, hbr⟩ := hrel
    by_cases hkN : k < N
    · have hkl : k < l.length := by have := HN.out; omega
      obtain ⟨c0, c1, c2⟩ := (Bx.later HX.out hbr.out).cells
      obtain ⟨b, off, rfl, hc⟩ := Gs.at3 (Three.Ss.below HB.out hbr.out) hkl
      obtain ⟨p0, p1, p2⟩ := hc k hkl
      have hyes := Lib.hid (contains_yes (g := (a0, a1, a2)) hkl)
      have hnext := Lib.hid (no_more hno.out hkl)
      obtain ⟨y, hy⟩ : ∃ y, l[k] = y := ⟨_, rfl⟩
      rw [hy] at p0 p1 p2 hyes hnext
      clear hy hno hc hkl
      have hq := gr_eql (a0, a1, a2) y
      have hg := fun u z => gr_guard .eql u z #[.int .i64 a0, .int .i64 a1, .int .i64 a2] #[.int .i64 y.1, .int .i64 y.2.1, .int .i64 y.2.2]
      obtain ⟨y0, y1, y2⟩ := y
      unfold gv at hq
      simp only [] at p0 p1 p2 hq hg
      cases he : ((a0, a1, a2) == (y0, y1, y2)) with
      | true =>
        rw [he] at hq
        have hfin : Hid (decide ((0 : Int) ≤ (k : Int)) = l.contains (a0, a1, a2)) := by
          unfold Hid
          rw [beq_iff_eq] at he
          rw [hyes.out he.symm]
          simp
        clear hyes hnext he
        go_wp2_with fail
        go_quiet (fail)
        clear p0 p1 p2 hq hg c0 c1 c2
        go_wp2_with fail
        go_ret
        exact ⟨_, rfl, hfin, below_next (below_next hb1.out hbr.out) (below_drewN _ _)⟩
      | false =>
        rw [he] at hq
        have hne : Hid (∀ i (_ : i < l.length), i < k + 1 → l[i] ≠ (a0, a1, a2)) := hnext.out (by rintro h; rw [beq_eq_false_iff_ne] at he; exact he h.symm)
        clear hyes hnext he
        go_wp2_with fail
        go_quiet (fail)
        clear p0 p1 p2 hq hg c0 c1 c2
        go_wp2_with fail
        go_roundw
        case rel => exact ⟨k + 1, by omega, by go_num, hne, below_next hbr.out (below_drewN _ _)⟩
        case measure => simp [intOf]; omega
    · have hfin : Hid (decide ((0 : Int) ≤ -1) = l.contains (a0, a1, a2)) := by
        unfold Hid
        rw [contains_no fun i hi => hno.out i hi (by have := HN.out; omega)]
        rfl
      go_wp2_with fail
      go_ret
      exact ⟨_, rfl, hfin, below_next hb1.out hbr.out⟩

set_option maxHeartbeats 1000000 in
theorem gcontains_any (v : Value) (l : List Gr) (g : Gr) (w : World) (h : Gs w v l) :
    Calls Tryd.prog 40 #[v, gv g] w fun e w' => e = .returned (.bool (l.contains g)) ∧ Below w.heap.size w w' := by
  have hb1 := (Below.refl w.heap.size w).alloc (Nat.le_refl _) (.cells #[.int .i64 g.1, .int .i64 g.2.1, .int .i64 g.2.2] 50)
  have HI := Lib.hid (gindex_any v l g _ (Three.Ss.below h hb1))
  obtain ⟨a0, a1, a2⟩ := g
  replace hb1 := Lib.hid hb1
  clear h
  generalize l.contains (a0, a1, a2) = q at *
  go_enter Tryd.func40, Tryd.ntmps40
  go_wp2_with fail
  refine HI.out.mono ?_
  rintro e w2 ⟨r, rfl, hr, hb⟩
  have hfin := Lib.hid (below_next hb1.out hb)
  clear hb hb1 HI
  go_wp2_with fail
  go_ret
  exact ⟨by rw [← hr.out]; rfl, hfin.out⟩

set_option maxHeartbeats 1000000 in
theorem may_any (v : Value) (l : List Gr) (g : Gr) (w : World) (h : Gs w v l) :
    Calls Tryd.prog 23 #[v, gv g] w fun e w' => e = .returned (.bool (l.contains g)) ∧ Below w.heap.size w w' := by
  have hb1 := (Below.refl w.heap.size w).alloc (Nat.le_refl _) (.cells #[.int .i64 g.1, .int .i64 g.2.1, .int .i64 g.2.2] 50)
  have HI := Lib.hid (gcontains_any v l g _ (Three.Ss.below h hb1))
  obtain ⟨a0, a1, a2⟩ := g
  replace hb1 := Lib.hid hb1
  clear h
  generalize l.contains (a0, a1, a2) = q at *
  go_enter Tryd.func23, Tryd.ntmps23
  go_wp2_with fail
  refine HI.out.mono ?_
  rintro e w2 ⟨rfl, hb⟩
  have hfin := Lib.hid (below_next hb1.out hb)
  clear hb hb1 HI
  go_wp2_with fail
  go_ret
  exact ⟨rfl, hfin.out⟩

set_option maxHeartbeats 1000000 in
theorem refMay_any (v : Value) (l : List Gr) (g : Gr) (w : World) (h : Gs w v l) :
    Calls Tryd.prog 25 #[v, gv g] w fun e w' => e = .returned (.bool (l.contains g)) ∧ Below w.heap.size w w' := by
  have hbig := h.len
  obtain ⟨ao, cap, rfl, -⟩ := h.shape
  have hb1 := (Below.refl w.heap.size w).alloc (Nat.le_refl _) (.cells #[.int .i64 g.1, .int .i64 g.2.1, .int .i64 g.2.2] 50)
  have HB := Lib.hid (Three.Ss.below h ((Below.refl w.heap.size w).alloc (Nat.le_refl _) (.cells #[.int .i64 g.1, .int .i64 g.2.1, .int .i64 g.2.2] 50)))
  obtain ⟨a0, a1, a2⟩ := g
  obtain ⟨N, hN⟩ : ∃ N, l.length = N := ⟨_, rfl⟩
  have HN := Lib.hid hN
  rw [hN] at hbig HB ⊢
  clear h hN
  go_enter Tryd.func25, Tryd.ntmps25
  go_wp2_with fail
  have HX : Hid (Bx (w.alloc (.cells #[.int .i64 a0, .int .i64 a1, .int .i64 a2] 50)) w.heap.size 50 (.int .i64 a0) (.int .i64 a1) (.int .i64 a2)) := heap_alloc_new _ _
  replace hb1 := Lib.hid hb1
  generalize w.alloc (.cells #[.int .i64 a0, .int .i64 a1, .int .i64 a2] 50) = w1 at *
  obtain ⟨B, hB⟩ : ∃ B, w.heap.size = B := ⟨_, rfl⟩
  rw [hB] at HX
  rw [hB]
  clear hB
  go_loopw [5] (fun i wr => ∃ k : Nat, k ≤ N ∧ i = .int .i64 k ∧ Hid (∀ i (_ : i < l.length), i < k → l[i] ≠ (a0, a1, a2)) ∧ Hid (Below w1.heap.size w1 wr)) (fun i _ => N - (intOf i).toNat)
  case atStart => exact ⟨0, by omega, rfl, fun i _ hi => absurd hi (Nat.not_lt_zero _), Below.refl _ _⟩
  case round =>
    obtain ⟨k, hk, rfl, hno, hbr⟩ := hrel
    by_cases hkN : k < N
    · have hkl : k < l.length := by have := HN.out; omega
      obtain ⟨c0, c1, c2⟩ := (Bx.later HX.out hbr.out).cells
      obtain ⟨b, off, rfl, hc⟩ := Gs.at3 (Three.Ss.below HB.out hbr.out) hkl
      obtain ⟨p0, p1, p2⟩ := hc k hkl
      have hyes := Lib.hid (contains_yes (g := (a0, a1, a2)) hkl)
      have hnext := Lib.hid (no_more hno.out hkl)
      obtain ⟨y, hy⟩ : ∃ y, l[k] = y := ⟨_, rfl⟩
      rw [hy] at p0 p1 p2 hyes hnext
      clear hy hno hc hkl
      have hq := gr_eql y (a0, a1, a2)
      have hg := fun u z => gr_guard .eql u z #[.int .i64 y.1, .int .i64 y.2.1, .int .i64 y.2.2] #[.int .i64 a0, .int .i64 a1, .int .i64 a2]
      obtain ⟨y0, y1, y2⟩ := y
      unfold gv at hq
      simp only [] at p0 p1 p2 hq hg
      cases he : ((y0, y1, y2) == (a0, a1, a2)) with
      | true =>
        rw [he] at hq
        have hfin : Hid (l.contains (a0, a1, a2) = true) := by
          unfold Hid
          rw [beq_iff_eq] at he
          rw [hyes.out he]
        clear hyes hnext he
        go_wp2_with fail
        go_quiet (fail)
        clear p0 p1 p2 hq hg c0 c1 c2
        go_wp2_with fail
        go_ret
        exact ⟨by rw [hfin.out]; rfl, below_next (below_next hb1.out hbr.out) (below_drewN _ _)⟩
      | false =>
        rw [he] at hq
        have hne : Hid (∀ i (_ : i < l.length), i < k + 1 → l[i] ≠ (a0, a1, a2)) := hnext.out (by rintro h; rw [beq_eq_false_iff_ne] at he; exact he h)
        clear hyes hnext he
        go_wp2_with fail
        go_quiet (fail)
        clear p0 p1 p2 hq hg c0 c1 c2
        go_wp2_with fail
        go_roundw
        case rel => exact ⟨k + 1, by omega, by go_num, hne, below_next hbr.out (below_drewN _ _)⟩
        case measure => simp [intOf]; omega
    · have hfin : Hid (l.contains (a0, a1, a2) = false) := contains_no fun i hi => hno.out i hi (by have := HN.out; omega)
      go_wp2_with fail
      go_ret
      exact ⟨by rw [hfin.out]; rfl, below_next hb1.out hbr.out⟩

end Go.Proofs.YtljpfocmnppjgaaDoor
