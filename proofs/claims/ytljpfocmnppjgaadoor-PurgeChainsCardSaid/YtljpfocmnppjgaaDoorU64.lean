/- Slices of 64-bit numbers. No program. -/
import Derived.Test.YtljpfocmnppjgaaDoorBase
import Derived.Test.YtljpfocmnppjgaaDoorBits
namespace Go.Proofs.YtljpfocmnppjgaaDoor
open Go Go.RowKit

def u64Cells (us : List Nat) : List Value := us.map fun (x : Nat) => .int .u64 (x : Int)
theorem u64Cells_length (us : List Nat) : (u64Cells us).length = us.length := by simp [u64Cells]
theorem u64Cells_oneCell (us : List Nat) : ∀ u ∈ u64Cells us, u.oneCell' = true := by
  intro u hu
  obtain ⟨_, _, rfl⟩ := List.mem_map.1 hu
  rfl
/-- The slice value v reads as the numbers us. -/
def Us (w : World) (v : Value) (us : List Nat) : Prop := Sl w 1 us.length v (u64Cells us)
def U64s (us : List Nat) : Prop := ∀ x ∈ us, x < 18446744073709551616
theorem Us.below {w w' : World} {v : Value} {us : List Nat} (h : Us w v us) (hb : Below w.heap.size w w') : Us w' v us := Sl.below h hb
theorem Us.nil (w : World) : Us w (.slice none 0 0) [] := Sl.nil w 1
theorem Us.shape {w : World} {v : Value} {us : List Nat} (h : Us w v us) : ∃ ao cap, v = .slice ao us.length cap ∧ us.length ≤ cap := Sl.shape h
theorem Us.at {w : World} {ao : Option Addr} {len cap : Nat} {us : List Nat} (h : Us w (.slice ao len cap) us) {j : Nat} (hj : j < us.length) :
    ∃ b off, ao = some ⟨b, off, none⟩ ∧ ∀ i, i < us.length → w.cell? ⟨b, off + i, none⟩ = some (.int .u64 ((us.getD i 0 : Nat) : Int)) := by
  obtain ⟨b, off, e, hc⟩ := Sl.at (j := j) h (by simpa [u64Cells] using hj)
  refine ⟨b, off, e, fun i hi => ?_⟩
  have := hc i (by simpa [u64Cells] using hi)
  rw [this]
  simp [u64Cells, List.getD_eq_getElem?_getD, hi]
theorem Us.of_owns {w : World} {base e n : Nat} {v : Value} {us : List Nat} (h : w.ownsRow base e 1 v n (u64Cells us)) : Us w v us := by
  have := Sl.of_owns h
  have e : n = us.length := by have h1 := h.1; rw [u64Cells_length] at h1; omega
  subst e
  exact this
theorem Us.lit {w : World} {e : TypeId} {fz : Nat × Nat} {vs : Array Value} (us : List Nat) (n : Nat) (hn : us.length = n) (h : n ≤ maxLen) (hv : vs = (u64Cells us).toArray) : Us (w.alloc (.cells vs e fz)) (.slice (some ⟨w.heap.size, 0, none⟩) n n) us := by
  have := Sl.lit w e 1 n vs fz (by rw [hv]; simp [u64Cells, hn]) h
  subst hn hv
  exact this
theorem Us.len {w : World} {v : Value} {us : List Nat} (h : Us w v us) : us.length ≤ 9223372036854775807 := by
  obtain ⟨_, ao, cap, _, h1, h2, _⟩ := h
  unfold maxLen at h2
  omega
theorem U64s.getD {us : List Nat} (h : U64s us) (i : Nat) : us.getD i 0 < 18446744073709551616 := by
  rw [List.getD_eq_getElem?_getD]
  by_cases hi : i < us.length
  · rw [List.getElem?_eq_getElem hi]; exact h _ (List.getElem_mem hi)
  · rw [List.getElem?_eq_none (Nat.not_lt.1 hi)]; decide

end Go.Proofs.YtljpfocmnppjgaaDoor
