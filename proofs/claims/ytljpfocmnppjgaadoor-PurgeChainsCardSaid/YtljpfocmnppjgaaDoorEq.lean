/- What the comparisons of two rows of numbers return. Printed by wip/mkeq.py. -/
import Derived.Test.YtljpfocmnppjgaaDoorList
import Derived.Test.YtljpfocmnppjgaaDoorU64
import Derived.BigQuiet
import Derived.Deep.QuietTactic
namespace Go.Proofs.YtljpfocmnppjgaaDoor
open Go Go.RowKit

/-- A slice of numbers of kind i64. -/
def Is (w : World) (v : Value) (l : List Nat) : Prop := Sl w 1 l.length v (intCells l)
theorem Is.below {w w' : World} {v : Value} {l : List Nat} (h : Is w v l) (hb : Below w.heap.size w w') : Is w' v l := Sl.below h hb
theorem Is.shape {w : World} {v : Value} {l : List Nat} (h : Is w v l) : ∃ ao cap, v = .slice ao l.length cap ∧ l.length ≤ cap := Sl.shape h
theorem Is.at {w : World} {ao : Option Addr} {len cap : Nat} {us : List Nat} (h : Is w (.slice ao len cap) us) {j : Nat} (hj : j < us.length) :
    ∃ b off, ao = some ⟨b, off, none⟩ ∧ ∀ i, i < us.length → w.cell? ⟨b, off + i, none⟩ = some (.int .i64 ((us.getD i 0 : Nat) : Int)) := by
  obtain ⟨b, off, e, hc⟩ := Sl.at (j := j) h (by simpa [intCells] using hj)
  refine ⟨b, off, e, fun i hi => ?_⟩
  have := hc i (by simpa [intCells] using hi)
  rw [this, List.getD_eq_getElem?_getD, List.getElem?_eq_getElem hi]
  simp [intCells]
theorem Is.of_owns {w : World} {base e n : Nat} {v : Value} {us : List Nat} (h : w.ownsRow base e 1 v n (intCells us)) : Is w v us := by
  have := Sl.of_owns h
  have e : n = us.length := by have h1 := h.1; simp [intCells] at h1; omega
  subst e
  exact this
theorem Is.len {w : World} {v : Value} {us : List Nat} (h : Is w v us) : us.length ≤ 9223372036854775807 := by
  obtain ⟨_, ao, cap, _, h1, h2, _⟩ := h
  unfold maxLen at h2
  omega
theorem take_getD {us : List Nat} {k : Nat} (h : k < us.length) : us.take (k + 1) = us.take k ++ [us.getD k 0] := by
  rw [List.take_succ_eq_append_getElem h, List.getD_eq_getElem?_getD, List.getElem?_eq_getElem h]
  rfl

set_option maxHeartbeats 400000 in
theorem same_any (v1 v2 : Value) (l m : List Nat) (w : World) (h1 : Us w v1 l) (h2 : Us w v2 m) :
    Calls Tryd.prog 11 #[v1, v2] w fun e w' => e = .returned (.bool (l == m)) ∧ Below w.heap.size w w' := by
  have hbig := h1.len
  obtain ⟨ao1, cap1, rfl, -⟩ := h1.shape
  obtain ⟨ao2, cap2, rfl, -⟩ := h2.shape
  by_cases hlen : l.length = m.length
  · have hne : ((l.length : Int) != (m.length : Int)) = false := by rw [bne_eq_false_iff_eq]; omega
    have HL := Lib.hid hlen
    clear hlen
    go_enter Tryd.func11, Tryd.ntmps11
    go_wp2_with fail
    go_loopw [5] (fun i wr => ∃ k nq : Nat, k ≤ l.length ∧ i = .int .i64 k ∧ wr = w.drewN nq ∧ Hid (l.take k = m.take k)) (fun i _ => l.length - (intOf i).toNat)
    case atStart => exact ⟨0, 0, by omega, rfl, rfl, by simp [Hid]⟩
    case round =>
      obtain ⟨k, nq, hk, rfl, rfl, hr⟩ := hrel
      by_cases hlt : k < l.length
      · have hltm : k < m.length := by have := HL.out; omega
        obtain ⟨b1, o1, rfl, hc1⟩ := h1.at hlt
        obtain ⟨b2, o2, rfl, hc2⟩ := h2.at hltm
        have c1 := hc1 k hlt
        have c2 := hc2 k hltm
        have hi1 : (k : Int) < (l.length : Int) := by omega
        have hi2 : (k : Int) < (m.length : Int) := by omega
        clear hc1 hc2 h1 h2
        have hk1 : Hid (l.take (k + 1) = l.take k ++ [l.getD k 0]) := take_getD hlt
        have hk2 : Hid (m.take (k + 1) = m.take k ++ [m.getD k 0]) := take_getD hltm
        have hlm : Hid (l.getD k 0 ≠ m.getD k 0 → (l == m) = false) := fun hx => by
          rw [beq_eq_false_iff_ne]
          intro e
          subst e
          exact hx rfl
        obtain ⟨x, hx⟩ : ∃ x, l.getD k 0 = x := ⟨_, rfl⟩
        obtain ⟨y, hy⟩ : ∃ y, m.getD k 0 = y := ⟨_, rfl⟩
        rw [hx] at c1 hk1 hlm
        rw [hy] at c2 hk2 hlm
        clear hx hy
        by_cases hxy : x = y
        · subst hxy
          have hd : ((x : Int) != (x : Int)) = false := by simp
          go_wp2_with fail
          go_quiet (fail)
          go_wp2_with fail
          go_roundw
          case rel => exact ⟨k + 1, _, by omega, by go_num, rfl, by have a1 := hr.out; have a2 := hk1.out; have a3 := hk2.out; unfold Hid; rw [a2, a3, a1]⟩
          case measure => simp [intOf]; omega
        · have hd : ((x : Int) != (y : Int)) = true := by
            rw [bne_iff_ne]; intro e; exact hxy (by omega)
          have hfin := hlm.out hxy
          have HF := Lib.hid hfin
          clear hfin hxy
          go_wp2_with fail
          go_quiet (fail)
          go_wp2_with fail
          go_ret
          exact ⟨by rw [HF.out]; rfl, below_next (below_drewN _ _) (below_drewN _ _)⟩
      · have hfin : (l == m) = true := by
          rw [beq_iff_eq]
          have := hr.out
          rw [List.take_of_length_le (by omega), List.take_of_length_le (by have := HL.out; omega)] at this
          exact this
        have HF := Lib.hid hfin
        clear hfin
        go_wp2_with fail
        go_ret
        exact ⟨by rw [HF.out]; rfl, below_drewN _ _⟩
  · have hne : ((l.length : Int) != (m.length : Int)) = true := by rw [bne_iff_ne]; omega
    have hfin : (l == m) = false := by
      rw [beq_eq_false_iff_ne]
      rintro rfl
      exact hlen rfl
    have HF := Lib.hid hfin
    clear hfin hlen
    go_enter Tryd.func11, Tryd.ntmps11
    go_wp2_with fail
    go_ret
    exact ⟨by rw [HF.out]; rfl, Below.refl _ _⟩

end Go.Proofs.YtljpfocmnppjgaaDoor
