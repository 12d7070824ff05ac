/- What the reference's Same returns at records. What the reference's Same returns at two results that read alike. -/
import Derived.Test.YtmapmeacjpoaoaaDoorPm22
namespace Go.Proofs.YtmapmeacjpoaoaaDoor
open Go Go.RowKit

theorem Rv.at {w : World} {ao : Option Addr} {n cap : Nat} {l : List Rec} (h : Rv w (.slice ao n cap) l) {j : Nat} (hj : j < l.length) :
    ∃ b off, ao = some ⟨b, off, none⟩ ∧ ∀ W, Below w.heap.size w W → W.cell? ⟨b, off + j * 6, none⟩ = some (.int .i64 l[j].actor) ∧ W.cell? ⟨b, off + j * 6 + 1, none⟩ = some (.int .i64 l[j].fro) ∧ W.cell? ⟨b, off + j * 6 + 2, none⟩ = some (.int .i64 l[j].dst) ∧ W.cell? ⟨b, off + j * 6 + 3, none⟩ = some (.string (str l[j].bucket)) ∧ W.cell? ⟨b, off + j * 6 + 4, none⟩ = some (.string (str l[j].key)) ∧ W.cell? ⟨b, off + j * 6 + 5, none⟩ = some (.int .u32 (l[j].digest : Int)) := by
  have hcl := rec_len l
  obtain ⟨b, off, rfl, -⟩ := Sl.at (j := j * 6) h (by omega)
  refine ⟨b, off, rfl, fun W hW => ?_⟩
  obtain ⟨b', off', e, hc⟩ := Sl.at (j := j * 6) (Sl.below h hW) (by omega)
  obtain ⟨rfl, rfl⟩ : b = b' ∧ off = off' := by simpa using e
  have key : ∀ i (hi : i < 6), W.cell? ⟨b, off + j * 6 + i, none⟩ = (Rec.cs l[j])[i]? := fun i hi => by
    have h3 := cells_at Rec.cs 6 (fun _ => rfl) l j hj i hi
    rw [Nat.add_assoc, hc (j * 6 + i) (by omega), ← List.getElem?_eq_getElem]
    unfold recCells
    rw [h3]
  exact ⟨key 0 (by decide), key 1 (by decide), key 2 (by decide), key 3 (by decide), key 4 (by decide), key 5 (by decide)⟩
theorem rec_ne (a b : Rec) (w : World) : (binOp .neq 112 (.agg a.cs.toArray) (.agg b.cs.toArray)).run Tryd.prog w = .ok (.bool (a != b)) w := by
  have u3 := Tryd.underlying3
  have a3 := Tryd.isAgg3
  have z3 := Tryd.sizeOf3
  have u9 := Tryd.underlying9
  have u32 := Tryd.underlying109
  have a32 := Tryd.isAgg109
  have z32 := Tryd.sizeOf109
  have a9 := Tryd.isAgg9
  have z9 := Tryd.sizeOf9
  have hS : Tryd.prog.underlying 112 = some (.struct (Tryd.prog.fieldsOf 112)) := by kernel_rfl
  have hp : Tryd.prog.stoodInHeld 112 = false := by kernel_rfl
  unfold Rec.cs
  rw [run_neq_struct, show (10000 : Nat) = 9999 + 1 from rfl, run_equalIn_agg w 9999 112 _ _ hS hp]
  simp only [Program.fieldsOf, Tryd.underlying112]
  obtain ⟨a0, a1, a2, a3, a4, a5⟩ := a
  obtain ⟨b0, b1, b2, b3, b4, b5⟩ := b
  go_simp
  have h6e : (a5 = b5) = ((a5 : Int) = (b5 : Int)) := by simp only [eq_iff_iff]; omega
  by_cases h1 : a0 = b0 <;> by_cases h2 : a1 = b1 <;> by_cases h3 : a2 = b2 <;> by_cases h4 : a3 = b3 <;> by_cases h5 : a4 = b4 <;> by_cases h6 : (a5 : Int) = (b5 : Int) <;> simp [h1, h2, h3, h4, h5, h6, h6e, bne]
theorem rec_guard (op : BinOp) (x y : Operand) (xs ys : Array Value) (w : World) : (eqGuard op 112 x y (.agg xs) (.agg ys)).run Tryd.prog w = .ok () w := run_eqGuard_agg _ _ _ _ _ _ _ (by kernel_rfl)

set_option maxHeartbeats 1000000 in
theorem recSame_any (v1 v2 : Value) (l m : List Rec) (w : World) (h1 : Rv w v1 l) (h2 : Rv w v2 m) :
    Calls Tryd.prog 33 #[v1, v2] w fun e w' => e = .returned (.bool (l == m)) ∧ Below w.heap.size w w' := by
  have hbig : l.length ≤ 9223372036854775807 := by
    obtain ⟨_, _, _, e, h1, h2, _⟩ := h1
    unfold maxLen at h2
    omega
  obtain ⟨ao1, cap1, rfl, -⟩ := h1.shape
  obtain ⟨ao2, cap2, rfl, -⟩ := h2.shape
  by_cases hlen : l.length = m.length
  · have hne : ((l.length : Int) != (m.length : Int)) = false := by rw [bne_eq_false_iff_eq]; omega
    have H1 := Lib.hid h1
    have H2 := Lib.hid h2
    clear h1 h2
    obtain ⟨N, hN⟩ : ∃ N, l.length = N := ⟨_, rfl⟩
    have hM := hlen.symm.trans hN
    rw [hN] at hne hbig H1 ⊢
    rw [hM] at hne H2 ⊢
    go_enter Tryd.func33, Tryd.ntmps33
    go_wp2_with fail
    go_loopw [5] (fun i wr => ∃ k : Nat, k ≤ N ∧ i = .int .i64 k ∧ Hid (l.take k = m.take k) ∧ Below w.heap.size w wr) (fun i _ => N - (intOf i).toNat)
    case atStart => exact ⟨0, by omega, rfl, rfl, Below.refl _ _⟩
    case round =>
      obtain ⟨k, hk, rfl, hr, hbr⟩ := hrel
      by_cases hkl : k < N
      · obtain ⟨b1, o1, rfl, hc1⟩ := (H1.out.below hbr).at (j := k) (by omega)
        obtain ⟨b2, o2, rfl, hc2⟩ := (H2.out.below hbr).at (j := k) (by omega)
        obtain ⟨p0, p1, p2, p3, p4, p5⟩ := hc1 wr (Below.refl _ _)
        obtain ⟨q0, q1, q2, q3, q4, q5⟩ := hc2 wr (Below.refl _ _)
        clear hc1 hc2
        have hq := rec_ne l[k] m[k]
        have hg := fun x y => rec_guard .neq x y (l[k]).cs.toArray (m[k]).cs.toArray
        simp only [Rec.cs] at hq hg
        go_wp2_with fail
        go_quiet (fail)
        cases hlm : (l[k] != m[k]) with
        | true =>
          have hfin : Hid ((l == m) = false) := by
            unfold Hid
            rw [beq_eq_false_iff_ne]
            rintro rfl
            simp at hlm
          clear p0 p1 p2 p3 p4 p5 q0 q1 q2 q3 q4 q5 hq hg
          go_wp2_with fail
          go_ret
          exact ⟨by rw [hfin.out]; rfl, below_next hbr (below_drewN _ _)⟩
        | false =>
          have hfin : Hid (l.take (k + 1) = m.take (k + 1)) := by
            unfold Hid
            rw [List.take_succ_eq_append_getElem (by omega), List.take_succ_eq_append_getElem (by omega), hr.out]
            rw [bne_eq_false_iff_eq] at hlm
            rw [hlm]
          clear p0 p1 p2 p3 p4 p5 q0 q1 q2 q3 q4 q5 hq hg
          go_wp2_with fail
          go_roundw
          case rel => exact ⟨k + 1, by omega, by go_num, hfin, below_next hbr (below_drewN _ _)⟩
          case measure => simp [intOf]; omega
      · have hfin : Hid ((l == m) = true) := by
          unfold Hid
          rw [beq_iff_eq]
          have := hr.out
          rwa [List.take_of_length_le (by omega), List.take_of_length_le (by omega)] at this
        go_wp2_with fail
        go_ret
        exact ⟨by rw [hfin.out]; rfl, hbr⟩
  · have hne : ((l.length : Int) != (m.length : Int)) = true := by rw [bne_iff_ne]; omega
    have hfin : Hid ((l == m) = false) := by
      unfold Hid
      rw [beq_eq_false_iff_ne]
      rintro rfl
      exact hlen rfl
    clear h1 h2 hlen
    go_enter Tryd.func33, Tryd.ntmps33
    go_wp2_with fail
    go_ret
    exact ⟨by rw [hfin.out]; rfl, Below.refl _ _⟩
end Go.Proofs.YtmapmeacjpoaoaaDoor
namespace Go.Proofs.YtmapmeacjpoaoaaDoor
open Go Go.RowKit

set_option maxHeartbeats 2000000 in
theorem resSame_any (e n : Int) (rows : List Rw) (recs : List Rec) (vr1 vc1 vr2 vc2 : Value) (w : World) (h1 : Rs w vr1 rows) (h2 : Rs w vr2 rows) (h3 : Rv w vc1 recs) (h4 : Rv w vc2 recs) :
    Calls Tryd.prog 11 #[resv e n vr1 vc1, resv e n vr2 vc2] w fun r w' => r = .returned (.bool true) ∧ Below w.heap.size w w' := by
  have hb1 : Below w.heap.size w (w.alloc (.cells #[.int .i64 e, .int .i64 n, vr1, .int .i64 0, .int .i64 0, .int .i64 0, .int .i64 0, vc1] 45)) := (Below.refl _ _).alloc (Nat.le_refl _) _
  have hR1 : Rb (w.alloc (.cells #[.int .i64 e, .int .i64 n, vr1, .int .i64 0, .int .i64 0, .int .i64 0, .int .i64 0, vc1] 45)) w.heap.size e n vr1 vc1 := heap_alloc_new w _
  obtain ⟨w1, hw1⟩ : ∃ w1, w.alloc (.cells #[.int .i64 e, .int .i64 n, vr1, .int .i64 0, .int .i64 0, .int .i64 0, .int .i64 0, vc1] 45) = w1 := ⟨_, rfl⟩
  rw [hw1] at hb1 hR1
  have hb2 : Below w1.heap.size w1 (w1.alloc (.cells #[.int .i64 e, .int .i64 n, vr2, .int .i64 0, .int .i64 0, .int .i64 0, .int .i64 0, vc2] 45)) := (Below.refl _ _).alloc (Nat.le_refl _) _
  have hR2 : Rb (w1.alloc (.cells #[.int .i64 e, .int .i64 n, vr2, .int .i64 0, .int .i64 0, .int .i64 0, .int .i64 0, vc2] 45)) w1.heap.size e n vr2 vc2 := heap_alloc_new w1 _
  obtain ⟨w2, hw2⟩ : ∃ w2, w1.alloc (.cells #[.int .i64 e, .int .i64 n, vr2, .int .i64 0, .int .i64 0, .int .i64 0, .int .i64 0, vc2] 45) = w2 := ⟨_, rfl⟩
  rw [hw2] at hb2 hR2
  obtain ⟨B1, hB1⟩ : ∃ B1, w.heap.size = B1 := ⟨_, rfl⟩
  obtain ⟨B2, hB2⟩ : ∃ B2, w1.heap.size = B2 := ⟨_, rfl⟩
  have hBB : B1 + 1 = B2 := by rw [← hB2, ← hw1, ← hB1]; simp
  rw [hB1] at hR1
  rw [hB2] at hR2
  have hb := Lib.hid (below_next hb1 hb2)
  have st1 := rwSame_any vr1 vr2 rows rows w2 (Three.Ss.below h1 hb.out) (Three.Ss.below h2 hb.out)
  rw [show (rows == rows) = true by simp] at st1
  replace st1 := Lib.hid st1
  have HS : Hid (∀ W, Below w2.heap.size w2 W → Calls Tryd.prog 33 #[vc1, vc2] W fun e w' => e = .returned (.bool true) ∧ Below W.heap.size W w') := fun W hW => by
    have := recSame_any vc1 vc2 recs recs W (h3.below (below_next hb.out hW)) (h4.below (below_next hb.out hW))
    rw [show (recs == recs) = true by simp] at this
    exact this
  have HR1 := Lib.hid (hR1.later hb2)
  have HR2 := Lib.hid hR2
  have hee : ((e : Int) == e) = true := by simp
  have hnn : ((n : Int) == n) = true := by simp
  obtain ⟨a1, c1, rfl, -⟩ := Three.Ss.shape h1
  obtain ⟨a2, c2, rfl, -⟩ := Three.Ss.shape h2
  obtain ⟨a3, c3, rfl, -⟩ := h3.shape
  obtain ⟨a4, c4, rfl, -⟩ := h4.shape
  obtain ⟨p0, p1, p2, -, -, -, -, p7⟩ := HR1.out.cells
  obtain ⟨q0, q1, q2, -, -, -, -, q7⟩ := HR2.out.cells
  clear h1 h2 h3 h4 hb1 hb2 hR1 hR2
  go_enter Tryd.func11, Tryd.ntmps11
  go_wp2_with fail
  refine st1.out.mono ?_
  rintro r w3 ⟨rfl, hx⟩
  have hb3 := Lib.hid (below_next hb.out hx)
  have st2 := Lib.hid (HS.out w3 hx)
  have p7 := (HR1.out.later hx).cells.2.2.2.2.2.2.2
  have q7 := (HR2.out.later hx).cells.2.2.2.2.2.2.2
  clear hx st1 HS HR1 HR2 hb
  go_wp2_with fail
  refine st2.out.mono ?_
  rintro r w4 ⟨rfl, hx⟩
  have hb4 := Lib.hid (below_next hb3.out hx)
  clear hx st2 p7 q7 hb3
  go_wp2_with fail
  go_ret
  exact ⟨rfl, hb4.out⟩
end Go.Proofs.YtmapmeacjpoaoaaDoor
