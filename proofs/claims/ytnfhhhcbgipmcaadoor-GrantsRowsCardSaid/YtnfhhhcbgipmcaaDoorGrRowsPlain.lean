/- Rows of grants that may be. No program. -/
import Derived.Test.YtnfhhhcbgipmcaaDoorGr4
namespace Go.Proofs.YtnfhhhcbgipmcaaDoor.L

theorem gless_iff {g h : Gr} : gless g h = true ↔ g.1 < h.1 ∨ (g.1 = h.1 ∧ (g.2.1 < h.2.1 ∨ (g.2.1 = h.2.1 ∧ g.2.2 < h.2.2))) := by
  rw [gless_eq]
  by_cases h1 : g.1 = h.1
  · rw [if_neg (by simpa using h1)]
    by_cases h2 : g.2.1 = h.2.1
    · rw [if_neg (by simpa using h2), decide_eq_true_eq]; omega
    · rw [if_pos h2, decide_eq_true_eq]; omega
  · rw [if_pos h1, decide_eq_true_eq]; omega
theorem gless_self (g : Gr) : gless g g = false := by
  rw [Bool.eq_false_iff]; intro h; have := gless_iff.1 h; omega
theorem gless_asymm {g h : Gr} (hg : gless g h = true) : gless h g = false := by
  rw [Bool.eq_false_iff]; intro h'; have := gless_iff.1 hg; have := gless_iff.1 h'; omega
theorem gless_trans {g h k : Gr} (h1 : gless g h = true) (h2 : gless h k = true) : gless g k = true := by
  have := gless_iff.1 h1
  have := gless_iff.1 h2
  exact gless_iff.2 (by omega)

structure GRow (us : List Nat) (l : List Gr) : Prop where
  fits : ∀ i (h : i < l.length), L.fits us l[i] = true
  next : ∀ i (h : i + 1 < l.length), gless l[i] l[i + 1] = true
theorem gok_zero {us : List Nat} {l : List Gr} (h : 0 < l.length) : gok us l 0 = L.fits us l[0] := by rw [gok_getElem h]; simp
theorem gok_succ {us : List Nat} {l : List Gr} {i : Nat} (h : i + 1 < l.length) : gok us l (i + 1) = (L.fits us l[i + 1] && gless l[i] l[i + 1]) := by
  rw [gok_getElem h, show i + 1 - 1 = i from rfl, List.getD_eq_getElem?_getD, List.getElem?_eq_getElem (by omega)]
  simp
theorem gcheck_row {us : List Nat} {l : List Gr} (h : gcheck us l = true) : GRow us l ∧ l.length ≤ 64 := by
  unfold gcheck at h
  rw [Bool.and_eq_true, decide_eq_true_eq, List.all_eq_true] at h
  obtain ⟨h1, h2⟩ := h
  refine ⟨⟨fun i hi => ?_, fun i hi => ?_⟩, h2⟩
  · have := h1 i (List.mem_range.2 hi)
    rw [gok_getElem hi, Bool.and_eq_true] at this
    exact this.1
  · have := h1 (i + 1) (List.mem_range.2 hi)
    rw [gok_succ hi, Bool.and_eq_true] at this
    exact this.2
theorem row_gcheck {us : List Nat} {l : List Gr} (h : GRow us l) (h64 : l.length ≤ 64) : gcheck us l = true := by
  rw [gcheck_all fun i hi => ?_, decide_eq_true h64]
  cases i with
  | zero => rw [gok_zero hi]; exact h.fits 0 hi
  | succ i => rw [gok_succ hi, h.fits _ hi, h.next _ hi]; rfl
theorem GRow.sorted {us : List Nat} {l : List Gr} (h : GRow us l) {i : Nat} : ∀ {j : Nat} (hij : i < j) (hj : j < l.length), gless (l[i]'(Nat.lt_trans hij hj)) l[j] = true
  | 0, hij, _ => absurd hij (Nat.not_lt_zero _)
  | j + 1, hij, hj => by
    by_cases e : i = j
    · subst e; exact h.next i hj
    · exact gless_trans (h.sorted (j := j) (by omega) (by omega)) (h.next j hj)
theorem GRow.take {us : List Nat} {l : List Gr} (h : GRow us l) (k : Nat) : GRow us (l.take k) :=
  ⟨fun i hi => by rw [List.getElem_take]; exact h.fits i (by rw [List.length_take] at hi; omega),
    fun i hi => by rw [List.getElem_take, List.getElem_take]; exact h.next i (by rw [List.length_take] at hi; omega)⟩
theorem GRow.drop {us : List Nat} {l : List Gr} (h : GRow us l) (k : Nat) : GRow us (l.drop k) :=
  ⟨fun i hi => by rw [List.getElem_drop]; exact h.fits _ (by rw [List.length_drop] at hi; omega),
    fun i hi => by
      rw [List.getElem_drop, List.getElem_drop]
      exact h.next (k + i) (by rw [List.length_drop] at hi; omega)⟩
/-- What stands ahead of one is another one. -/
theorem GRow.fresh {us : List Nat} {l : List Gr} (h : GRow us l) {m : Nat} (hm : m < l.length) : (l.take m).contains l[m] = false := by
  refine contains_no fun i hi e => ?_
  rw [List.length_take] at hi
  rw [List.getElem_take] at e
  have := h.sorted (i := i) (j := m) (by omega) hm
  rw [e, gless_self] at this
  cases this
theorem twice_no {us : List Nat} {l : List Gr} {x : Gr} {m : Nat} (hm : l.length = m + 1) (hx : l[m]'(by omega) = x) : gcheck us (l ++ [x]) = false := by
  have hl : (l ++ [x]).length = m + 1 + 1 := by rw [List.length_append, hm]; rfl
  refine gcheck_no (i := m + 1) (by omega) ?_
  have h1 : m + 1 < (l ++ [x]).length := by omega
  rw [gok_succ h1]
  have e1 : (l ++ [x])[m]'(by omega) = x := by rw [List.getElem_append_left (by omega)]; exact hx
  have e2 : (l ++ [x])[m + 1] = x := by
    rw [List.getElem_append_right (by omega)]
    simp [hm]
  rw [e1, e2, gless_self, Bool.and_false]
theorem back_no {us : List Nat} {l : List Gr} (h : GRow us l) (h2 : 2 ≤ l.length) : gcheck us l.reverse = false := by
  refine gcheck_no (i := 1) (by rw [List.length_reverse]; omega) ?_
  have h1 : 0 + 1 < l.reverse.length := by rw [List.length_reverse]; omega
  rw [gok_succ h1, List.getElem_reverse, List.getElem_reverse]
  have := gless_asymm (h.sorted (i := l.length - 1 - (0 + 1)) (j := l.length - 1 - 0) (by omega) (by omega))
  rw [this, Bool.and_false]
theorem drop_reverse {l : List Gr} {m : Nat} (h : m < l.length) : (l.drop m).reverse = (l.drop (m + 1)).reverse ++ [l[m]] := by
  rw [List.drop_eq_getElem_cons h, List.reverse_cons]
end Go.Proofs.YtnfhhhcbgipmcaaDoor.L
