/- What the reference's with returns at entries. What small returns. -/
import Derived.Test.YtmapmeacjpoaoaaDoorPm07
import Derived.Laws.Cover1
import Derived.BigQuiet
import Derived.Deep.QuietTactic
namespace Go.Proofs.YtmapmeacjpoaoaaDoor
open Go Go.RowKit

namespace M
theorem wfold_step {e : En} {l : List En} {i : Nat} (h : i < l.length) : wfold e (l.take (i + 1)) = wstep e (wfold e (l.take i)) l[i] := by
  unfold wfold
  rw [List.take_succ_eq_append_getElem h, List.foldl_append]
  rfl
theorem ins_done (e : En) (x : En) : ins e true x = false := by unfold ins; rfl
theorem wstep_len (e : En) (s : List En × Bool) (x : En) : (wstep e s x).1.length ≤ s.1.length + (if s.2 then 1 else 2) ∧ (s.2 = true → (wstep e s x).2 = true) ∧ ((wstep e s x).2 = false → (wstep e s x).1.length ≤ s.1.length + 1) := by
  obtain ⟨t, d⟩ := s
  unfold wstep
  cases d with
  | true => cases ho : other e x <;> simp [ins_done]
  | false => cases hi : ins e false x <;> cases ho : other e x <;> simp
theorem wfold_len (e : En) (l : List En) : (wfold e l).1.length ≤ l.length + (if (wfold e l).2 then 1 else 0) := by
  suffices H : ∀ (l : List En) (s : List En × Bool), (l.foldl (wstep e) s).1.length ≤ s.1.length + l.length + (if s.2 then 0 else if (l.foldl (wstep e) s).2 then 1 else 0) by
    have := H l ([], false)
    unfold wfold
    simpa using this
  intro l
  induction l with
  | nil => intro s; simp
  | cons x l ih =>
    intro s
    rw [List.foldl_cons]
    have h := ih (wstep e s x)
    obtain ⟨h1, h2, h3⟩ := wstep_len e s x
    rw [List.length_cons]
    cases hs : s.2 with
    | true =>
      rw [hs] at h1 h2
      rw [h2 rfl] at h
      simp only [if_true] at h h1 ⊢
      omega
    | false =>
      cases hw : (wstep e s x).2 with
      | true =>
        rw [hw] at h
        have hk : (l.foldl (wstep e) (wstep e s x)).2 = true := by
          clear h ih h1 h2 h3 hs
          revert hw
          generalize wstep e s x = t
          induction l generalizing t with
          | nil => exact fun h => h
          | cons y l ih => intro ht; exact ih _ ((wstep_len e t y).2.1 ht)
        rw [hk]
        rw [hs] at h1
        simp only [if_true, Bool.false_eq_true, if_false] at h h1 ⊢
        omega
      | false =>
        rw [hw] at h
        have := h3 hw
        simp only [Bool.false_eq_true, if_false] at h ⊢
        omega
theorem with_len (l : List En) (e : En) : (with_ l e).length ≤ l.length + 1 := by
  have := wfold_len e l
  unfold with_
  rw [List.length_append]
  cases h : (wfold e l).2 <;> rw [h] at this <;> simp at this ⊢ <;> omega
end M

set_option maxRecDepth 4000 in
set_option maxHeartbeats 4000000 in
theorem mwith_any (v : Value) (l : List En) (e0 e1 e2 : List UInt8) (w : World) (h : Es w v l) (hl : l.length ≤ 100000) :
    Calls Tryd.prog 54 #[v, .agg #[.string (str e0), .string (str e1), .string (str e2)]] w fun e w' => ∃ v', e = .returned v' ∧ Eo w' w.heap.size v' (M.with_ l (e0, e1, e2)) ∧ Below w.heap.size w w' := by
  obtain ⟨ao, cap, rfl, -⟩ := h.shape
  have hb1 : Below w.heap.size w (w.alloc (.cells #[.string (str e0), .string (str e1), .string (str e2)] 98)) := (Below.refl _ _).alloc (Nat.le_refl _) _
  have HB := Lib.hid hb1
  have HE : Hid (Es _ _ l) := Three.Ss.below h hb1
  have hbx : (w.alloc (.cells #[.string (str e0), .string (str e1), .string (str e2)] 98)).heap[w.heap.size]? = some (.cells #[.string (str e0), .string (str e1), .string (str e2)] 98 (0, 0)) := heap_alloc_new w _
  clear h hb1
  have HT : Hid (M.wfold (e0, e1, e2) (l.take l.length) = M.wfold (e0, e1, e2) l) := by unfold Hid; rw [List.take_length]
  obtain ⟨N, hN⟩ : ∃ N, l.length = N := ⟨_, rfl⟩
  have HN := Lib.hid hN
  rw [hN] at HE hl HT ⊢
  clear hN
  go_enter Tryd.func54, Tryd.ntmps54
  obtain ⟨w1, hw1⟩ : ∃ w1, w.alloc (.cells #[.string (str e0), .string (str e1), .string (str e2)] 98) = w1 := ⟨_, rfl⟩
  rw [hw1] at HB HE hbx
  obtain ⟨G, hG⟩ : ∃ G, w.heap.size = G := ⟨_, rfl⟩
  have HG := Lib.hid hG
  rw [hG] at HB hbx ⊢
  obtain ⟨G1, hG1⟩ : ∃ G1, w1.heap.size = G1 := ⟨_, rfl⟩
  have HG1 := Lib.hid hG1
  have hGG : G < G1 := by rw [← hG1]; exact (Array.getElem?_eq_some_iff.1 hbx).1
  have HBox : Hid (∀ W, Below G1 w1 W → W.cell? ⟨G, 0, none⟩ = some (.string (str e0)) ∧ W.cell? ⟨G, 1, none⟩ = some (.string (str e1)) ∧ W.cell? ⟨G, 2, none⟩ = some (.string (str e2))) := fun W hW => by
    have hh : W.heap[G]? = some (.cells #[.string (str e0), .string (str e1), .string (str e2)] 98 (0, 0)) := (hW.block G hGG).trans hbx
    exact ⟨cell_of_row W G 0 _ _ (0, 0) hh, cell_of_row W G 1 _ _ (0, 0) hh, cell_of_row W G 2 _ _ (0, 0) hh⟩
  have hb0 : Hid (Below G1 w1 w1) := Below.refl _ _
  clear hG1 hbx
  go_wp2_with fail
  clear hG hw1
  go_loopw [5, 6, 7] (fun t d i wr => ∃ k : Nat, k ≤ N ∧ i = .int .i64 k ∧ d = .bool (M.wfold (e0, e1, e2) (l.take k)).2 ∧ Hid (Eo wr G1 t (M.wfold (e0, e1, e2) (l.take k)).1) ∧ Hid (Below G1 w1 wr)) (fun _ _ i _ => N - (intOf i).toNat)
  case atStart => exact ⟨0, by omega, rfl, rfl, World.ownsRow_nil _ _ _ _, hb0⟩
  case round =>
    clear hb0
    obtain ⟨k, hk, rfl, rfl, HO, hbr⟩ := hrel
    by_cases hkn : k < N
    · have hkI : (k : Int) < (N : Int) := by omega
      have hk0 : (0 : Int) ≤ (k : Int) := by omega
      obtain ⟨bb, off, rfl, hc⟩ := HE.out.at (k := k) (by rw [HN.out]; exact hkn)
      rw [HG1.out] at hc
      have HST := M.wfold_step (e := (e0, e1, e2)) (l := l) (i := k) (by rw [HN.out]; exact hkn)
      have hln := M.wfold_len (e0, e1, e2) (l.take k)
      rw [List.length_take, HN.out, Nat.min_eq_left hk] at hln
      obtain ⟨x, hx⟩ : ∃ x, (l[k]'(by rw [HN.out]; exact hkn)) = x := ⟨_, rfl⟩
      rw [hx] at hc HST
      obtain ⟨x0, x1, x2⟩ := x
      simp only [] at hc
      obtain ⟨s, hs⟩ : ∃ s, M.wfold (e0, e1, e2) (l.take k) = s := ⟨_, rfl⟩
      rw [hs] at HO HST hln ⊢
      clear hs hx
      obtain ⟨out, dn⟩ := s
      simp only [] at HO HST hln ⊢
      replace hln : out.length ≤ k + 1 := by split at hln <;> omega
      obtain ⟨p0, p1, -⟩ := hc wr hbr.out
      obtain ⟨g0, g1, -⟩ := HBox.out wr hbr.out
      have HC := Lib.hid hc
      have HST := Lib.hid HST
      clear hc
      cases dn with
      | true =>
        cases he0 : (x0 == e0) with
        | true =>
          cases he1 : (x1 == e1) with
          | true =>
            have HST : Hid (M.wfold (e0, e1, e2) (l.take (k + 1)) = (out, true)) := by
              unfold Hid
              rw [HST.out]
              have hi : M.ins (e0, e1, e2) true (x0, x1, x2) = false := by unfold M.ins; simp [he0]
              have ho : M.other (e0, e1, e2) (x0, x1, x2) = false := by unfold M.other; simp [he0, he1]
              unfold M.wstep
              simp [hi, ho]
            go_wp2_with fail
            go_quiet (fail)
            have HOq := HO.out
            have hbq : Below G1 w1 (wr.drewN nq) := by
              have := below_next (show Below w1.heap.size w1 wr by rw [HG1.out]; exact hbr.out) (below_drewN wr nq)
              rw [HG1.out] at this
              exact this
            replace HOq := show (wr.drewN nq).ownsRow _ _ _ _ _ _ from HOq
            clear HO hbr p0 p1 g0 g1
            generalize wr.drewN nq = w2 at *
            have HO := Lib.hid HOq
            have hbr := Lib.hid hbq
            clear HOq hbq
            obtain ⟨m, hm⟩ : ∃ m, out.length = m := ⟨_, rfl⟩
            unfold Eo at HO
            rw [hm] at HO hln
            have HM := Lib.hid hm
            clear hm
            obtain ⟨p0, p1, p2⟩ := HC.out w2 hbr.out
            obtain ⟨g0, g1, g2⟩ := HBox.out w2 hbr.out
            go_wp2_with fail
            go_quiet (fail)
            have HOq := HO.out
            have hbq : Below G1 w1 (w2.drewN nq) := by
              have := below_next (show Below w1.heap.size w1 w2 by rw [HG1.out]; exact hbr.out) (below_drewN w2 nq)
              rw [HG1.out] at this
              exact this
            replace HOq := show (w2.drewN nq).ownsRow _ _ _ _ _ _ from HOq
            clear HO hbr p0 p1 p2 g0 g1 g2
            generalize w2.drewN nq = w4 at *
            have HO := Lib.hid HOq
            have hbr := Lib.hid hbq
            clear HOq hbq
            have HO9 : Hid (Eo w4 G1 u5 (out)) := by
              unfold Hid Eo
              simp only [List.length_append, List.length_singleton, HM.out]
              exact HO.out
            clear HO
            go_wp2_with fail
            go_roundw
            case rel => exact ⟨k + 1, by omega, by go_num, by rw [HST.out], by rw [HST.out]; exact HO9, hbr⟩
            case measure => simp [intOf]; omega
          | false =>
            have HST : Hid (M.wfold (e0, e1, e2) (l.take (k + 1)) = (out ++ [(x0, x1, x2)], true)) := by
              unfold Hid
              rw [HST.out]
              have hi : M.ins (e0, e1, e2) true (x0, x1, x2) = false := by unfold M.ins; simp [he0]
              have ho : M.other (e0, e1, e2) (x0, x1, x2) = true := by unfold M.other; simp [he0, he1]
              unfold M.wstep
              simp [hi, ho]
            go_wp2_with fail
            go_quiet (fail)
            have HOq := HO.out
            have hbq : Below G1 w1 (wr.drewN nq) := by
              have := below_next (show Below w1.heap.size w1 wr by rw [HG1.out]; exact hbr.out) (below_drewN wr nq)
              rw [HG1.out] at this
              exact this
            replace HOq := show (wr.drewN nq).ownsRow _ _ _ _ _ _ from HOq
            clear HO hbr p0 p1 g0 g1
            generalize wr.drewN nq = w2 at *
            have HO := Lib.hid HOq
            have hbr := Lib.hid hbq
            clear HOq hbq
            obtain ⟨m, hm⟩ : ∃ m, out.length = m := ⟨_, rfl⟩
            unfold Eo at HO
            rw [hm] at HO hln
            have HM := Lib.hid hm
            clear hm
            obtain ⟨p0, p1, p2⟩ := HC.out w2 hbr.out
            obtain ⟨g0, g1, g2⟩ := HBox.out w2 hbr.out
            go_wp2_with fail
            go_quiet (fail)
            have HOq := HO.out
            have hbq : Below G1 w1 (w2.drewN nq) := by
              have := below_next (show Below w1.heap.size w1 w2 by rw [HG1.out]; exact hbr.out) (below_drewN w2 nq)
              rw [HG1.out] at this
              exact this
            replace HOq := show (w2.drewN nq).ownsRow _ _ _ _ _ _ from HOq
            clear HO hbr p0 p1 p2 g0 g1 g2
            generalize w2.drewN nq = w4 at *
            have HO := Lib.hid HOq
            have hbr := Lib.hid hbq
            clear HOq hbq
            obtain ⟨p0, p1, p2⟩ := HC.out w4 hbr.out
            obtain ⟨g0, g1, g2⟩ := HBox.out w4 hbr.out
            have HO6 := Lib.hid (HO.out.alloc (.cells #[.string (str x0), .string (str x1), .string (str x2)] 98))
            have HS6 : Hid (Sl (w4.alloc (.cells #[.string (str x0), .string (str x1), .string (str x2)] 98)) 3 1 (.slice (some ⟨w4.heap.size, 0, none⟩) 1 1) (EN.cells [(x0, x1, x2)])) := Sl.lit _ 98 3 1 #[.string (str x0), .string (str x1), .string (str x2)] (0, 0) rfl (by decide)
            have hG6 : G1 ≤ w4.heap.size := by have := hbr.out.size; rw [HG1.out] at this; exact this
            have hB6 : Hid (Below G1 w1 (w4.alloc (.cells #[.string (str x0), .string (str x1), .string (str x2)] 98))) := hbr.out.alloc hG6 _
            have hG7 : G1 ≤ (w4.alloc (.cells #[.string (str x0), .string (str x1), .string (str x2)] 98)).heap.size := by simp; omega
            clear HO hbr hG6
            go_wp2_with (at_builtin; go_must (refine wpList_append_sl rfl _ _ 92 rfl G1 98 _ 3 48 Tryd.underlying92 infoEn rfl (by decide) _ _ _ rfl HO6.out _ 1 (EN.cells [(x0, x1, x2)]) rfl HS6.out (en_oneCell _) (by unfold maxLen; omega) (by omega) hG7 ?_))
            intro v7 w5 hown7 hgrow hnn
            clear hnn p0 p1 p2 g0 g1 g2
            rw [← Three.cells_append] at hown7
            have hbr : Hid (Below G1 w1 w5) := hB6.out.grown hgrow hG7 (ownBlock_ge HO6.out)
            have HO := Lib.hid hown7
            clear hown7 hgrow HO6 HS6 hB6 hG7
            have HO9 : Hid (Eo w5 G1 v7 (out ++ [(x0, x1, x2)])) := by
              unfold Hid Eo
              simp only [List.length_append, List.length_singleton, HM.out]
              exact HO.out
            clear HO
            go_wp2_with fail
            go_roundw
            case rel => exact ⟨k + 1, by omega, by go_num, by rw [HST.out], by rw [HST.out]; exact HO9, hbr⟩
            case measure => simp [intOf]; omega
        | false =>
          have HST : Hid (M.wfold (e0, e1, e2) (l.take (k + 1)) = (out ++ [(x0, x1, x2)], true)) := by
            unfold Hid
            rw [HST.out]
            have hi : M.ins (e0, e1, e2) true (x0, x1, x2) = false := by unfold M.ins; simp [he0]
            have ho : M.other (e0, e1, e2) (x0, x1, x2) = true := by unfold M.other; simp [he0]
            unfold M.wstep
            simp [hi, ho]
          go_wp2_with fail
          go_quiet (fail)
          have HOq := HO.out
          have hbq : Below G1 w1 (wr.drewN nq) := by
            have := below_next (show Below w1.heap.size w1 wr by rw [HG1.out]; exact hbr.out) (below_drewN wr nq)
            rw [HG1.out] at this
            exact this
          replace HOq := show (wr.drewN nq).ownsRow _ _ _ _ _ _ from HOq
          clear HO hbr p0 p1 g0 g1
          generalize wr.drewN nq = w2 at *
          have HO := Lib.hid HOq
          have hbr := Lib.hid hbq
          clear HOq hbq
          obtain ⟨m, hm⟩ : ∃ m, out.length = m := ⟨_, rfl⟩
          unfold Eo at HO
          rw [hm] at HO hln
          have HM := Lib.hid hm
          clear hm
          obtain ⟨p0, p1, p2⟩ := HC.out w2 hbr.out
          obtain ⟨g0, g1, g2⟩ := HBox.out w2 hbr.out
          go_wp2_with fail
          go_quiet (fail)
          have HOq := HO.out
          have hbq : Below G1 w1 (w2.drewN nq) := by
            have := below_next (show Below w1.heap.size w1 w2 by rw [HG1.out]; exact hbr.out) (below_drewN w2 nq)
            rw [HG1.out] at this
            exact this
          replace HOq := show (w2.drewN nq).ownsRow _ _ _ _ _ _ from HOq
          clear HO hbr p0 p1 p2 g0 g1 g2
          generalize w2.drewN nq = w4 at *
          have HO := Lib.hid HOq
          have hbr := Lib.hid hbq
          clear HOq hbq
          obtain ⟨p0, p1, p2⟩ := HC.out w4 hbr.out
          obtain ⟨g0, g1, g2⟩ := HBox.out w4 hbr.out
          have HO6 := Lib.hid (HO.out.alloc (.cells #[.string (str x0), .string (str x1), .string (str x2)] 98))
          have HS6 : Hid (Sl (w4.alloc (.cells #[.string (str x0), .string (str x1), .string (str x2)] 98)) 3 1 (.slice (some ⟨w4.heap.size, 0, none⟩) 1 1) (EN.cells [(x0, x1, x2)])) := Sl.lit _ 98 3 1 #[.string (str x0), .string (str x1), .string (str x2)] (0, 0) rfl (by decide)
          have hG6 : G1 ≤ w4.heap.size := by have := hbr.out.size; rw [HG1.out] at this; exact this
          have hB6 : Hid (Below G1 w1 (w4.alloc (.cells #[.string (str x0), .string (str x1), .string (str x2)] 98))) := hbr.out.alloc hG6 _
          have hG7 : G1 ≤ (w4.alloc (.cells #[.string (str x0), .string (str x1), .string (str x2)] 98)).heap.size := by simp; omega
          clear HO hbr hG6
          go_wp2_with (at_builtin; go_must (refine wpList_append_sl rfl _ _ 92 rfl G1 98 _ 3 48 Tryd.underlying92 infoEn rfl (by decide) _ _ _ rfl HO6.out _ 1 (EN.cells [(x0, x1, x2)]) rfl HS6.out (en_oneCell _) (by unfold maxLen; omega) (by omega) hG7 ?_))
          intro v7 w5 hown7 hgrow hnn
          clear hnn p0 p1 p2 g0 g1 g2
          rw [← Three.cells_append] at hown7
          have hbr : Hid (Below G1 w1 w5) := hB6.out.grown hgrow hG7 (ownBlock_ge HO6.out)
          have HO := Lib.hid hown7
          clear hown7 hgrow HO6 HS6 hB6 hG7
          have HO9 : Hid (Eo w5 G1 v7 (out ++ [(x0, x1, x2)])) := by
            unfold Hid Eo
            simp only [List.length_append, List.length_singleton, HM.out]
            exact HO.out
          clear HO
          go_wp2_with fail
          go_roundw
          case rel => exact ⟨k + 1, by omega, by go_num, by rw [HST.out], by rw [HST.out]; exact HO9, hbr⟩
          case measure => simp [intOf]; omega
      | false =>
        cases he0 : (x0 == e0) with
        | true =>
          cases h2 : blt x1 e1 with
          | true =>
            have h2' : Op.bytesLess x1 e1 = true := h2
            cases he1 : (x1 == e1) with
            | true =>
              have HST : Hid (M.wfold (e0, e1, e2) (l.take (k + 1)) = (out, false)) := by
                unfold Hid
                rw [HST.out]
                have hi : M.ins (e0, e1, e2) false (x0, x1, x2) = false := by unfold M.ins; simp [he0, h2]
                have ho : M.other (e0, e1, e2) (x0, x1, x2) = false := by unfold M.other; simp [he0, he1]
                unfold M.wstep
                simp [hi, ho]
              go_wp2_with fail
              go_quiet (fail)
              have HOq := HO.out
              have hbq : Below G1 w1 (wr.drewN nq) := by
                have := below_next (show Below w1.heap.size w1 wr by rw [HG1.out]; exact hbr.out) (below_drewN wr nq)
                rw [HG1.out] at this
                exact this
              replace HOq := show (wr.drewN nq).ownsRow _ _ _ _ _ _ from HOq
              clear HO hbr p0 p1 g0 g1
              generalize wr.drewN nq = w2 at *
              have HO := Lib.hid HOq
              have hbr := Lib.hid hbq
              clear HOq hbq
              obtain ⟨m, hm⟩ : ∃ m, out.length = m := ⟨_, rfl⟩
              unfold Eo at HO
              rw [hm] at HO hln
              have HM := Lib.hid hm
              clear hm
              obtain ⟨p0, p1, p2⟩ := HC.out w2 hbr.out
              obtain ⟨g0, g1, g2⟩ := HBox.out w2 hbr.out
              go_wp2_with fail
              go_quiet (fail)
              have HOq := HO.out
              have hbq : Below G1 w1 (w2.drewN nq) := by
                have := below_next (show Below w1.heap.size w1 w2 by rw [HG1.out]; exact hbr.out) (below_drewN w2 nq)
                rw [HG1.out] at this
                exact this
              replace HOq := show (w2.drewN nq).ownsRow _ _ _ _ _ _ from HOq
              clear HO hbr p0 p1 p2 g0 g1 g2
              generalize w2.drewN nq = w4 at *
              have HO := Lib.hid HOq
              have hbr := Lib.hid hbq
              clear HOq hbq
              have HO9 : Hid (Eo w4 G1 u5 (out)) := by
                unfold Hid Eo
                simp only [List.length_append, List.length_singleton, HM.out]
                exact HO.out
              clear HO
              go_wp2_with fail
              go_roundw
              case rel => exact ⟨k + 1, by omega, by go_num, by rw [HST.out], by rw [HST.out]; exact HO9, hbr⟩
              case measure => simp [intOf]; omega
            | false =>
              have HST : Hid (M.wfold (e0, e1, e2) (l.take (k + 1)) = (out ++ [(x0, x1, x2)], false)) := by
                unfold Hid
                rw [HST.out]
                have hi : M.ins (e0, e1, e2) false (x0, x1, x2) = false := by unfold M.ins; simp [he0, h2]
                have ho : M.other (e0, e1, e2) (x0, x1, x2) = true := by unfold M.other; simp [he0, he1]
                unfold M.wstep
                simp [hi, ho]
              go_wp2_with fail
              go_quiet (fail)
              have HOq := HO.out
              have hbq : Below G1 w1 (wr.drewN nq) := by
                have := below_next (show Below w1.heap.size w1 wr by rw [HG1.out]; exact hbr.out) (below_drewN wr nq)
                rw [HG1.out] at this
                exact this
              replace HOq := show (wr.drewN nq).ownsRow _ _ _ _ _ _ from HOq
              clear HO hbr p0 p1 g0 g1
              generalize wr.drewN nq = w2 at *
              have HO := Lib.hid HOq
              have hbr := Lib.hid hbq
              clear HOq hbq
              obtain ⟨m, hm⟩ : ∃ m, out.length = m := ⟨_, rfl⟩
              unfold Eo at HO
              rw [hm] at HO hln
              have HM := Lib.hid hm
              clear hm
              obtain ⟨p0, p1, p2⟩ := HC.out w2 hbr.out
              obtain ⟨g0, g1, g2⟩ := HBox.out w2 hbr.out
              go_wp2_with fail
              go_quiet (fail)
              have HOq := HO.out
              have hbq : Below G1 w1 (w2.drewN nq) := by
                have := below_next (show Below w1.heap.size w1 w2 by rw [HG1.out]; exact hbr.out) (below_drewN w2 nq)
                rw [HG1.out] at this
                exact this
              replace HOq := show (w2.drewN nq).ownsRow _ _ _ _ _ _ from HOq
              clear HO hbr p0 p1 p2 g0 g1 g2
              generalize w2.drewN nq = w4 at *
              have HO := Lib.hid HOq
              have hbr := Lib.hid hbq
              clear HOq hbq
              obtain ⟨p0, p1, p2⟩ := HC.out w4 hbr.out
              obtain ⟨g0, g1, g2⟩ := HBox.out w4 hbr.out
              have HO6 := Lib.hid (HO.out.alloc (.cells #[.string (str x0), .string (str x1), .string (str x2)] 98))
              have HS6 : Hid (Sl (w4.alloc (.cells #[.string (str x0), .string (str x1), .string (str x2)] 98)) 3 1 (.slice (some ⟨w4.heap.size, 0, none⟩) 1 1) (EN.cells [(x0, x1, x2)])) := Sl.lit _ 98 3 1 #[.string (str x0), .string (str x1), .string (str x2)] (0, 0) rfl (by decide)
              have hG6 : G1 ≤ w4.heap.size := by have := hbr.out.size; rw [HG1.out] at this; exact this
              have hB6 : Hid (Below G1 w1 (w4.alloc (.cells #[.string (str x0), .string (str x1), .string (str x2)] 98))) := hbr.out.alloc hG6 _
              have hG7 : G1 ≤ (w4.alloc (.cells #[.string (str x0), .string (str x1), .string (str x2)] 98)).heap.size := by simp; omega
              clear HO hbr hG6
              go_wp2_with (at_builtin; go_must (refine wpList_append_sl rfl _ _ 92 rfl G1 98 _ 3 48 Tryd.underlying92 infoEn rfl (by decide) _ _ _ rfl HO6.out _ 1 (EN.cells [(x0, x1, x2)]) rfl HS6.out (en_oneCell _) (by unfold maxLen; omega) (by omega) hG7 ?_))
              intro v7 w5 hown7 hgrow hnn
              clear hnn p0 p1 p2 g0 g1 g2
              rw [← Three.cells_append] at hown7
              have hbr : Hid (Below G1 w1 w5) := hB6.out.grown hgrow hG7 (ownBlock_ge HO6.out)
              have HO := Lib.hid hown7
              clear hown7 hgrow HO6 HS6 hB6 hG7
              have HO9 : Hid (Eo w5 G1 v7 (out ++ [(x0, x1, x2)])) := by
                unfold Hid Eo
                simp only [List.length_append, List.length_singleton, HM.out]
                exact HO.out
              clear HO
              go_wp2_with fail
              go_roundw
              case rel => exact ⟨k + 1, by omega, by go_num, by rw [HST.out], by rw [HST.out]; exact HO9, hbr⟩
              case measure => simp [intOf]; omega
          | false =>
            have h2' : Op.bytesLess x1 e1 = false := h2
            cases he1 : (x1 == e1) with
            | true =>
              have HST : Hid (M.wfold (e0, e1, e2) (l.take (k + 1)) = (out ++ [(e0, e1, e2)], true)) := by
                unfold Hid
                rw [HST.out]
                have hi : M.ins (e0, e1, e2) false (x0, x1, x2) = true := by unfold M.ins; simp [he0, h2]
                have ho : M.other (e0, e1, e2) (x0, x1, x2) = false := by unfold M.other; simp [he0, he1]
                unfold M.wstep
                simp [hi, ho]
              go_wp2_with fail
              go_quiet (fail)
              have HOq := HO.out
              have hbq : Below G1 w1 (wr.drewN nq) := by
                have := below_next (show Below w1.heap.size w1 wr by rw [HG1.out]; exact hbr.out) (below_drewN wr nq)
                rw [HG1.out] at this
                exact this
              replace HOq := show (wr.drewN nq).ownsRow _ _ _ _ _ _ from HOq
              clear HO hbr p0 p1 g0 g1
              generalize wr.drewN nq = w2 at *
              have HO := Lib.hid HOq
              have hbr := Lib.hid hbq
              clear HOq hbq
              obtain ⟨p0, p1, p2⟩ := HC.out w2 hbr.out
              obtain ⟨g0, g1, g2⟩ := HBox.out w2 hbr.out
              obtain ⟨m, hm⟩ : ∃ m, out.length = m := ⟨_, rfl⟩
              rw [hm] at HO hln
              have HM := Lib.hid hm
              clear hm
              have HO6 := Lib.hid (HO.out.alloc (.cells #[.string (str e0), .string (str e1), .string (str e2)] 98))
              have HS6 : Hid (Sl (w2.alloc (.cells #[.string (str e0), .string (str e1), .string (str e2)] 98)) 3 1 (.slice (some ⟨w2.heap.size, 0, none⟩) 1 1) (EN.cells [(e0, e1, e2)])) := Sl.lit _ 98 3 1 #[.string (str e0), .string (str e1), .string (str e2)] (0, 0) rfl (by decide)
              have hG6 : G1 ≤ w2.heap.size := by have := hbr.out.size; rw [HG1.out] at this; exact this
              have hB6 : Hid (Below G1 w1 (w2.alloc (.cells #[.string (str e0), .string (str e1), .string (str e2)] 98))) := hbr.out.alloc hG6 _
              have hG7 : G1 ≤ (w2.alloc (.cells #[.string (str e0), .string (str e1), .string (str e2)] 98)).heap.size := by simp; omega
              clear HO hbr hG6
              go_wp2_with (at_builtin; go_must (refine wpList_append_sl rfl _ _ 92 rfl G1 98 _ 3 48 Tryd.underlying92 infoEn rfl (by decide) _ _ _ rfl HO6.out _ 1 (EN.cells [(e0, e1, e2)]) rfl HS6.out (en_oneCell _) (by unfold maxLen; omega) (by omega) hG7 ?_))
              intro v7 w3 hown7 hgrow hnn
              clear hnn p0 p1 p2 g0 g1 g2
              rw [← Three.cells_append] at hown7
              have hbr : Hid (Below G1 w1 w3) := hB6.out.grown hgrow hG7 (ownBlock_ge HO6.out)
              have HO := Lib.hid hown7
              clear hown7 hgrow HO6 HS6 hB6 hG7
              obtain ⟨p0, p1, p2⟩ := HC.out w3 hbr.out
              obtain ⟨g0, g1, g2⟩ := HBox.out w3 hbr.out
              go_wp2_with fail
              go_quiet (fail)
              have HOq := HO.out
              have hbq : Below G1 w1 (w3.drewN nq) := by
                have := below_next (show Below w1.heap.size w1 w3 by rw [HG1.out]; exact hbr.out) (below_drewN w3 nq)
                rw [HG1.out] at this
                exact this
              replace HOq := show (w3.drewN nq).ownsRow _ _ _ _ _ _ from HOq
              clear HO hbr p0 p1 p2 g0 g1 g2
              generalize w3.drewN nq = w4 at *
              have HO := Lib.hid HOq
              have hbr := Lib.hid hbq
              clear HOq hbq
              have HO9 : Hid (Eo w4 G1 v7 (out ++ [(e0, e1, e2)])) := by
                unfold Hid Eo
                simp only [List.length_append, List.length_singleton, HM.out]
                exact HO.out
              clear HO
              go_wp2_with fail
              go_roundw
              case rel => exact ⟨k + 1, by omega, by go_num, by rw [HST.out], by rw [HST.out]; exact HO9, hbr⟩
              case measure => simp [intOf]; omega
            | false =>
              have HST : Hid (M.wfold (e0, e1, e2) (l.take (k + 1)) = (out ++ [(e0, e1, e2)] ++ [(x0, x1, x2)], true)) := by
                unfold Hid
                rw [HST.out]
                have hi : M.ins (e0, e1, e2) false (x0, x1, x2) = true := by unfold M.ins; simp [he0, h2]
                have ho : M.other (e0, e1, e2) (x0, x1, x2) = true := by unfold M.other; simp [he0, he1]
                unfold M.wstep
                simp [hi, ho]
              go_wp2_with fail
              go_quiet (fail)
              have HOq := HO.out
              have hbq : Below G1 w1 (wr.drewN nq) := by
                have := below_next (show Below w1.heap.size w1 wr by rw [HG1.out]; exact hbr.out) (below_drewN wr nq)
                rw [HG1.out] at this
                exact this
              replace HOq := show (wr.drewN nq).ownsRow _ _ _ _ _ _ from HOq
              clear HO hbr p0 p1 g0 g1
              generalize wr.drewN nq = w2 at *
              have HO := Lib.hid HOq
              have hbr := Lib.hid hbq
              clear HOq hbq
              obtain ⟨p0, p1, p2⟩ := HC.out w2 hbr.out
              obtain ⟨g0, g1, g2⟩ := HBox.out w2 hbr.out
              obtain ⟨m, hm⟩ : ∃ m, out.length = m := ⟨_, rfl⟩
              rw [hm] at HO hln
              have HM := Lib.hid hm
              clear hm
              have HO6 := Lib.hid (HO.out.alloc (.cells #[.string (str e0), .string (str e1), .string (str e2)] 98))
              have HS6 : Hid (Sl (w2.alloc (.cells #[.string (str e0), .string (str e1), .string (str e2)] 98)) 3 1 (.slice (some ⟨w2.heap.size, 0, none⟩) 1 1) (EN.cells [(e0, e1, e2)])) := Sl.lit _ 98 3 1 #[.string (str e0), .string (str e1), .string (str e2)] (0, 0) rfl (by decide)
              have hG6 : G1 ≤ w2.heap.size := by have := hbr.out.size; rw [HG1.out] at this; exact this
              have hB6 : Hid (Below G1 w1 (w2.alloc (.cells #[.string (str e0), .string (str e1), .string (str e2)] 98))) := hbr.out.alloc hG6 _
              have hG7 : G1 ≤ (w2.alloc (.cells #[.string (str e0), .string (str e1), .string (str e2)] 98)).heap.size := by simp; omega
              clear HO hbr hG6
              go_wp2_with (at_builtin; go_must (refine wpList_append_sl rfl _ _ 92 rfl G1 98 _ 3 48 Tryd.underlying92 infoEn rfl (by decide) _ _ _ rfl HO6.out _ 1 (EN.cells [(e0, e1, e2)]) rfl HS6.out (en_oneCell _) (by unfold maxLen; omega) (by omega) hG7 ?_))
              intro v7 w3 hown7 hgrow hnn
              clear hnn p0 p1 p2 g0 g1 g2
              rw [← Three.cells_append] at hown7
              have hbr : Hid (Below G1 w1 w3) := hB6.out.grown hgrow hG7 (ownBlock_ge HO6.out)
              have HO := Lib.hid hown7
              clear hown7 hgrow HO6 HS6 hB6 hG7
              obtain ⟨p0, p1, p2⟩ := HC.out w3 hbr.out
              obtain ⟨g0, g1, g2⟩ := HBox.out w3 hbr.out
              go_wp2_with fail
              go_quiet (fail)
              have HOq := HO.out
              have hbq : Below G1 w1 (w3.drewN nq) := by
                have := below_next (show Below w1.heap.size w1 w3 by rw [HG1.out]; exact hbr.out) (below_drewN w3 nq)
                rw [HG1.out] at this
                exact this
              replace HOq := show (w3.drewN nq).ownsRow _ _ _ _ _ _ from HOq
              clear HO hbr p0 p1 p2 g0 g1 g2
              generalize w3.drewN nq = w4 at *
              have HO := Lib.hid HOq
              have hbr := Lib.hid hbq
              clear HOq hbq
              obtain ⟨p0, p1, p2⟩ := HC.out w4 hbr.out
              obtain ⟨g0, g1, g2⟩ := HBox.out w4 hbr.out
              have HO6 := Lib.hid (HO.out.alloc (.cells #[.string (str x0), .string (str x1), .string (str x2)] 98))
              have HS6 : Hid (Sl (w4.alloc (.cells #[.string (str x0), .string (str x1), .string (str x2)] 98)) 3 1 (.slice (some ⟨w4.heap.size, 0, none⟩) 1 1) (EN.cells [(x0, x1, x2)])) := Sl.lit _ 98 3 1 #[.string (str x0), .string (str x1), .string (str x2)] (0, 0) rfl (by decide)
              have hG6 : G1 ≤ w4.heap.size := by have := hbr.out.size; rw [HG1.out] at this; exact this
              have hB6 : Hid (Below G1 w1 (w4.alloc (.cells #[.string (str x0), .string (str x1), .string (str x2)] 98))) := hbr.out.alloc hG6 _
              have hG7 : G1 ≤ (w4.alloc (.cells #[.string (str x0), .string (str x1), .string (str x2)] 98)).heap.size := by simp; omega
              clear HO hbr hG6
              go_wp2_with (at_builtin; go_must (refine wpList_append_sl rfl _ _ 92 rfl G1 98 _ 3 48 Tryd.underlying92 infoEn rfl (by decide) _ _ _ rfl HO6.out _ 1 (EN.cells [(x0, x1, x2)]) rfl HS6.out (en_oneCell _) (by unfold maxLen; omega) (by omega) hG7 ?_))
              intro v7 w5 hown7 hgrow hnn
              clear hnn p0 p1 p2 g0 g1 g2
              rw [← Three.cells_append] at hown7
              have hbr : Hid (Below G1 w1 w5) := hB6.out.grown hgrow hG7 (ownBlock_ge HO6.out)
              have HO := Lib.hid hown7
              clear hown7 hgrow HO6 HS6 hB6 hG7
              have HO9 : Hid (Eo w5 G1 v7 (out ++ [(e0, e1, e2)] ++ [(x0, x1, x2)])) := by
                unfold Hid Eo
                simp only [List.length_append, List.length_singleton, HM.out]
                exact HO.out
              clear HO
              go_wp2_with fail
              go_roundw
              case rel => exact ⟨k + 1, by omega, by go_num, by rw [HST.out], by rw [HST.out]; exact HO9, hbr⟩
              case measure => simp [intOf]; omega
        | false =>
          cases h2 : blt x0 e0 with
          | true =>
            have h2' : Op.bytesLess x0 e0 = true := h2
            have HST : Hid (M.wfold (e0, e1, e2) (l.take (k + 1)) = (out ++ [(x0, x1, x2)], false)) := by
              unfold Hid
              rw [HST.out]
              have hi : M.ins (e0, e1, e2) false (x0, x1, x2) = false := by unfold M.ins; simp [he0, h2]
              have ho : M.other (e0, e1, e2) (x0, x1, x2) = true := by unfold M.other; simp [he0]
              unfold M.wstep
              simp [hi, ho]
            go_wp2_with fail
            go_quiet (fail)
            have HOq := HO.out
            have hbq : Below G1 w1 (wr.drewN nq) := by
              have := below_next (show Below w1.heap.size w1 wr by rw [HG1.out]; exact hbr.out) (below_drewN wr nq)
              rw [HG1.out] at this
              exact this
            replace HOq := show (wr.drewN nq).ownsRow _ _ _ _ _ _ from HOq
            clear HO hbr p0 p1 g0 g1
            generalize wr.drewN nq = w2 at *
            have HO := Lib.hid HOq
            have hbr := Lib.hid hbq
            clear HOq hbq
            obtain ⟨m, hm⟩ : ∃ m, out.length = m := ⟨_, rfl⟩
            unfold Eo at HO
            rw [hm] at HO hln
            have HM := Lib.hid hm
            clear hm
            obtain ⟨p0, p1, p2⟩ := HC.out w2 hbr.out
            obtain ⟨g0, g1, g2⟩ := HBox.out w2 hbr.out
            go_wp2_with fail
            go_quiet (fail)
            have HOq := HO.out
            have hbq : Below G1 w1 (w2.drewN nq) := by
              have := below_next (show Below w1.heap.size w1 w2 by rw [HG1.out]; exact hbr.out) (below_drewN w2 nq)
              rw [HG1.out] at this
              exact this
            replace HOq := show (w2.drewN nq).ownsRow _ _ _ _ _ _ from HOq
            clear HO hbr p0 p1 p2 g0 g1 g2
            generalize w2.drewN nq = w4 at *
            have HO := Lib.hid HOq
            have hbr := Lib.hid hbq
            clear HOq hbq
            obtain ⟨p0, p1, p2⟩ := HC.out w4 hbr.out
            obtain ⟨g0, g1, g2⟩ := HBox.out w4 hbr.out
            have HO6 := Lib.hid (HO.out.alloc (.cells #[.string (str x0), .string (str x1), .string (str x2)] 98))
            have HS6 : Hid (Sl (w4.alloc (.cells #[.string (str x0), .string (str x1), .string (str x2)] 98)) 3 1 (.slice (some ⟨w4.heap.size, 0, none⟩) 1 1) (EN.cells [(x0, x1, x2)])) := Sl.lit _ 98 3 1 #[.string (str x0), .string (str x1), .string (str x2)] (0, 0) rfl (by decide)
            have hG6 : G1 ≤ w4.heap.size := by have := hbr.out.size; rw [HG1.out] at this; exact this
            have hB6 : Hid (Below G1 w1 (w4.alloc (.cells #[.string (str x0), .string (str x1), .string (str x2)] 98))) := hbr.out.alloc hG6 _
            have hG7 : G1 ≤ (w4.alloc (.cells #[.string (str x0), .string (str x1), .string (str x2)] 98)).heap.size := by simp; omega
            clear HO hbr hG6
            go_wp2_with (at_builtin; go_must (refine wpList_append_sl rfl _ _ 92 rfl G1 98 _ 3 48 Tryd.underlying92 infoEn rfl (by decide) _ _ _ rfl HO6.out _ 1 (EN.cells [(x0, x1, x2)]) rfl HS6.out (en_oneCell _) (by unfold maxLen; omega) (by omega) hG7 ?_))
            intro v7 w5 hown7 hgrow hnn
            clear hnn p0 p1 p2 g0 g1 g2
            rw [← Three.cells_append] at hown7
            have hbr : Hid (Below G1 w1 w5) := hB6.out.grown hgrow hG7 (ownBlock_ge HO6.out)
            have HO := Lib.hid hown7
            clear hown7 hgrow HO6 HS6 hB6 hG7
            have HO9 : Hid (Eo w5 G1 v7 (out ++ [(x0, x1, x2)])) := by
              unfold Hid Eo
              simp only [List.length_append, List.length_singleton, HM.out]
              exact HO.out
            clear HO
            go_wp2_with fail
            go_roundw
            case rel => exact ⟨k + 1, by omega, by go_num, by rw [HST.out], by rw [HST.out]; exact HO9, hbr⟩
            case measure => simp [intOf]; omega
          | false =>
            have h2' : Op.bytesLess x0 e0 = false := h2
            have HST : Hid (M.wfold (e0, e1, e2) (l.take (k + 1)) = (out ++ [(e0, e1, e2)] ++ [(x0, x1, x2)], true)) := by
              unfold Hid
              rw [HST.out]
              have hi : M.ins (e0, e1, e2) false (x0, x1, x2) = true := by unfold M.ins; simp [he0, h2]
              have ho : M.other (e0, e1, e2) (x0, x1, x2) = true := by unfold M.other; simp [he0]
              unfold M.wstep
              simp [hi, ho]
            go_wp2_with fail
            go_quiet (fail)
            have HOq := HO.out
            have hbq : Below G1 w1 (wr.drewN nq) := by
              have := below_next (show Below w1.heap.size w1 wr by rw [HG1.out]; exact hbr.out) (below_drewN wr nq)
              rw [HG1.out] at this
              exact this
            replace HOq := show (wr.drewN nq).ownsRow _ _ _ _ _ _ from HOq
            clear HO hbr p0 p1 g0 g1
            generalize wr.drewN nq = w2 at *
            have HO := Lib.hid HOq
            have hbr := Lib.hid hbq
            clear HOq hbq
            obtain ⟨p0, p1, p2⟩ := HC.out w2 hbr.out
            obtain ⟨g0, g1, g2⟩ := HBox.out w2 hbr.out
            obtain ⟨m, hm⟩ : ∃ m, out.length = m := ⟨_, rfl⟩
            rw [hm] at HO hln
            have HM := Lib.hid hm
            clear hm
            have HO6 := Lib.hid (HO.out.alloc (.cells #[.string (str e0), .string (str e1), .string (str e2)] 98))
            have HS6 : Hid (Sl (w2.alloc (.cells #[.string (str e0), .string (str e1), .string (str e2)] 98)) 3 1 (.slice (some ⟨w2.heap.size, 0, none⟩) 1 1) (EN.cells [(e0, e1, e2)])) := Sl.lit _ 98 3 1 #[.string (str e0), .string (str e1), .string (str e2)] (0, 0) rfl (by decide)
            have hG6 : G1 ≤ w2.heap.size := by have := hbr.out.size; rw [HG1.out] at this; exact this
            have hB6 : Hid (Below G1 w1 (w2.alloc (.cells #[.string (str e0), .string (str e1), .string (str e2)] 98))) := hbr.out.alloc hG6 _
            have hG7 : G1 ≤ (w2.alloc (.cells #[.string (str e0), .string (str e1), .string (str e2)] 98)).heap.size := by simp; omega
            clear HO hbr hG6
            go_wp2_with (at_builtin; go_must (refine wpList_append_sl rfl _ _ 92 rfl G1 98 _ 3 48 Tryd.underlying92 infoEn rfl (by decide) _ _ _ rfl HO6.out _ 1 (EN.cells [(e0, e1, e2)]) rfl HS6.out (en_oneCell _) (by unfold maxLen; omega) (by omega) hG7 ?_))
            intro v7 w3 hown7 hgrow hnn
            clear hnn p0 p1 p2 g0 g1 g2
            rw [← Three.cells_append] at hown7
            have hbr : Hid (Below G1 w1 w3) := hB6.out.grown hgrow hG7 (ownBlock_ge HO6.out)
            have HO := Lib.hid hown7
            clear hown7 hgrow HO6 HS6 hB6 hG7
            obtain ⟨p0, p1, p2⟩ := HC.out w3 hbr.out
            obtain ⟨g0, g1, g2⟩ := HBox.out w3 hbr.out
            go_wp2_with fail
            go_quiet (fail)
            have HOq := HO.out
            have hbq : Below G1 w1 (w3.drewN nq) := by
              have := below_next (show Below w1.heap.size w1 w3 by rw [HG1.out]; exact hbr.out) (below_drewN w3 nq)
              rw [HG1.out] at this
              exact this
            replace HOq := show (w3.drewN nq).ownsRow _ _ _ _ _ _ from HOq
            clear HO hbr p0 p1 p2 g0 g1 g2
            generalize w3.drewN nq = w4 at *
            have HO := Lib.hid HOq
            have hbr := Lib.hid hbq
            clear HOq hbq
            obtain ⟨p0, p1, p2⟩ := HC.out w4 hbr.out
            obtain ⟨g0, g1, g2⟩ := HBox.out w4 hbr.out
            have HO6 := Lib.hid (HO.out.alloc (.cells #[.string (str x0), .string (str x1), .string (str x2)] 98))
            have HS6 : Hid (Sl (w4.alloc (.cells #[.string (str x0), .string (str x1), .string (str x2)] 98)) 3 1 (.slice (some ⟨w4.heap.size, 0, none⟩) 1 1) (EN.cells [(x0, x1, x2)])) := Sl.lit _ 98 3 1 #[.string (str x0), .string (str x1), .string (str x2)] (0, 0) rfl (by decide)
            have hG6 : G1 ≤ w4.heap.size := by have := hbr.out.size; rw [HG1.out] at this; exact this
            have hB6 : Hid (Below G1 w1 (w4.alloc (.cells #[.string (str x0), .string (str x1), .string (str x2)] 98))) := hbr.out.alloc hG6 _
            have hG7 : G1 ≤ (w4.alloc (.cells #[.string (str x0), .string (str x1), .string (str x2)] 98)).heap.size := by simp; omega
            clear HO hbr hG6
            go_wp2_with (at_builtin; go_must (refine wpList_append_sl rfl _ _ 92 rfl G1 98 _ 3 48 Tryd.underlying92 infoEn rfl (by decide) _ _ _ rfl HO6.out _ 1 (EN.cells [(x0, x1, x2)]) rfl HS6.out (en_oneCell _) (by unfold maxLen; omega) (by omega) hG7 ?_))
            intro v7 w5 hown7 hgrow hnn
            clear hnn p0 p1 p2 g0 g1 g2
            rw [← Three.cells_append] at hown7
            have hbr : Hid (Below G1 w1 w5) := hB6.out.grown hgrow hG7 (ownBlock_ge HO6.out)
            have HO := Lib.hid hown7
            clear hown7 hgrow HO6 HS6 hB6 hG7
            have HO9 : Hid (Eo w5 G1 v7 (out ++ [(e0, e1, e2)] ++ [(x0, x1, x2)])) := by
              unfold Hid Eo
              simp only [List.length_append, List.length_singleton, HM.out]
              exact HO.out
            clear HO
            go_wp2_with fail
            go_roundw
            case rel => exact ⟨k + 1, by omega, by go_num, by rw [HST.out], by rw [HST.out]; exact HO9, hbr⟩
            case measure => simp [intOf]; omega
    · have hkI : ¬ ((k : Int) < (N : Int)) := by omega
      obtain rfl : k = N := by omega
      rw [HT.out] at HO ⊢
      have hln := M.wfold_len (e0, e1, e2) l
      rw [HN.out] at hln
      have HW : Hid (M.with_ l (e0, e1, e2) = (M.wfold (e0, e1, e2) l).1 ++ (if (M.wfold (e0, e1, e2) l).2 then [] else [(e0, e1, e2)])) := rfl
      obtain ⟨s, hs⟩ : ∃ s, M.wfold (e0, e1, e2) l = s := ⟨_, rfl⟩
      rw [hs] at HO HW hln ⊢
      clear hs HT
      obtain ⟨out, dn⟩ := s
      simp only [] at HO HW hln ⊢
      replace hln : out.length ≤ k + 1 := by split at hln <;> omega
      obtain ⟨m, hm⟩ : ∃ m, out.length = m := ⟨_, rfl⟩
      unfold Eo at HO
      rw [hm] at HO hln
      have HM := Lib.hid hm
      clear hm
      cases dn with
      | true =>
        rw [if_pos rfl, List.append_nil] at HW
        have HO9 : Hid (Eo wr G1 u5 out) := by unfold Hid Eo; rw [HM.out]; exact HO.out
        go_wp2_with fail
        go_ret
        exact ⟨_, rfl, by rw [HW.out]; exact ownsRow.base HO9.out (by omega), HB.out.trans (hbr.out.mono (by omega))⟩
      | false =>
        rw [if_neg (by decide)] at HW
        obtain ⟨g0, g1, g2⟩ := HBox.out wr hbr.out
        have p0 : True := trivial
        have p1 : True := trivial
        have p2 : True := trivial
        have HO6 := Lib.hid (HO.out.alloc (.cells #[.string (str e0), .string (str e1), .string (str e2)] 98))
        have HS6 : Hid (Sl (wr.alloc (.cells #[.string (str e0), .string (str e1), .string (str e2)] 98)) 3 1 (.slice (some ⟨wr.heap.size, 0, none⟩) 1 1) (EN.cells [(e0, e1, e2)])) := Sl.lit _ 98 3 1 #[.string (str e0), .string (str e1), .string (str e2)] (0, 0) rfl (by decide)
        have hG6 : G1 ≤ wr.heap.size := by have := hbr.out.size; rw [HG1.out] at this; exact this
        have hB6 : Hid (Below G1 w1 (wr.alloc (.cells #[.string (str e0), .string (str e1), .string (str e2)] 98))) := hbr.out.alloc hG6 _
        have hG7 : G1 ≤ (wr.alloc (.cells #[.string (str e0), .string (str e1), .string (str e2)] 98)).heap.size := by simp; omega
        clear HO hbr hG6
        go_wp2_with (at_builtin; go_must (refine wpList_append_sl rfl _ _ 92 rfl G1 98 _ 3 48 Tryd.underlying92 infoEn rfl (by decide) _ _ _ rfl HO6.out _ 1 (EN.cells [(e0, e1, e2)]) rfl HS6.out (en_oneCell _) (by unfold maxLen; omega) (by omega) hG7 ?_))
        intro v7 w3 hown7 hgrow hnn
        clear hnn p0 p1 p2 g0 g1 g2
        rw [← Three.cells_append] at hown7
        have hbr : Hid (Below G1 w1 w3) := hB6.out.grown hgrow hG7 (ownBlock_ge HO6.out)
        have HO := Lib.hid hown7
        clear hown7 hgrow HO6 HS6 hB6 hG7
        have HO9 : Hid (Eo w3 G1 v7 (out ++ [(e0, e1, e2)])) := by
          unfold Hid Eo
          simp only [List.length_append, List.length_singleton, HM.out]
          exact HO.out
        clear HO
        go_wp2_with fail
        go_ret
        exact ⟨_, rfl, by rw [HW.out]; exact ownsRow.base HO9.out (by omega), HB.out.trans (hbr.out.mono (by omega))⟩
end Go.Proofs.YtmapmeacjpoaoaaDoor
namespace Go.Proofs.YtmapmeacjpoaoaaDoor
open Go Go.RowKit

/-- What small tells of a script and a configuration. -/
structure Small (us : List Nat) (gs : List Gr) (l : List Opr) : Prop where
  few : l.length ≤ 120
  labels : us.length ≤ 12
  keep : ∀ o ∈ l, o.keep.length ≤ 70
  lat : L.check us = true
  grants : L.gcheck us gs = true
end Go.Proofs.YtmapmeacjpoaoaaDoor
