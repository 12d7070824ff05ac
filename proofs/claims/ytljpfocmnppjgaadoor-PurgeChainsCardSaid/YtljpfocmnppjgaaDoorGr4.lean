/- What the two Checks of a row of grants return. -/
import Derived.Test.YtljpfocmnppjgaaDoorGr3
namespace Go.Proofs.YtljpfocmnppjgaaDoor
open Go Go.RowKit

namespace L
def gok (us : List Nat) (l : List Gr) (i : Nat) : Bool := fits us (l.getD i (0, 0, 0)) && (decide (i = 0) || gless (l.getD (i - 1) (0, 0, 0)) (l.getD i (0, 0, 0)))
def gcheck (us : List Nat) (l : List Gr) : Bool := (List.range l.length).all (gok us l) && decide (l.length ≤ 64)
theorem gcheck_no {us : List Nat} {l : List Gr} {i : Nat} (hi : i < l.length) (h : gok us l i = false) : gcheck us l = false := by
  unfold gcheck
  have : (List.range l.length).all (gok us l) = false := by
    rw [List.all_eq_false]
    exact ⟨i, List.mem_range.2 hi, by rw [h]; decide⟩
  rw [this]; rfl
theorem gcheck_all {us : List Nat} {l : List Gr} (h : ∀ i, i < l.length → gok us l i = true) : gcheck us l = decide (l.length ≤ 64) := by
  unfold gcheck
  have : (List.range l.length).all (gok us l) = true := List.all_eq_true.2 fun i hi => h i (List.mem_range.1 hi)
  rw [this]; rfl
theorem gcheck_long {us : List Nat} {l : List Gr} (h : 64 < l.length) : gcheck us l = false := by
  unfold gcheck
  rw [decide_eq_false (by omega), Bool.and_false]
theorem gok_getElem {us : List Nat} {l : List Gr} {i : Nat} (hi : i < l.length) : gok us l i = (fits us l[i] && (decide (i = 0) || gless (l.getD (i - 1) (0, 0, 0)) l[i])) := by
  unfold gok
  rw [List.getD_eq_getElem?_getD, List.getElem?_eq_getElem hi]
  rfl
end L

end Go.Proofs.YtljpfocmnppjgaaDoor
