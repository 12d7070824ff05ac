/- What cmp.Compare and cmp.Or return at ints. -/
import Derived.Test.YtljpfocmnppjgaaDoorRows
import Derived.Test.YtljpfocmnppjgaaDoorBase
namespace Go.Proofs.YtljpfocmnppjgaaDoor
open Go Go.RowKit

def ordI (a b : Int) : Int := if a < b then -1 else if b < a then 1 else 0
def orI : List Int → Int
  | [] => 0
  | x :: xs => if x = 0 then orI xs else x

/-- The slice value v reads as the ints xs. -/
def Zs (w : World) (v : Value) (xs : List Int) : Prop := Sl w 1 xs.length v (xs.map (Value.int .i64))
theorem Zs.lit {w : World} {e : TypeId} {fz : Nat × Nat} {vs : Array Value} (xs : List Int) (n : Nat) (hn : xs.length = n) (h : n ≤ maxLen) (hv : vs = (xs.map (Value.int .i64)).toArray) : Zs (w.alloc (.cells vs e fz)) (.slice (some ⟨w.heap.size, 0, none⟩) n n) xs := by
  have := Sl.lit w e 1 n vs fz (by rw [hv]; simp [hn]) h
  subst hn hv
  exact this
theorem Zs.at {w : World} {ao : Option Addr} {len cap : Nat} {xs : List Int} (h : Zs w (.slice ao len cap) xs) {j : Nat} (hj : j < xs.length) :
    ∃ b off, ao = some ⟨b, off, none⟩ ∧ ∀ i (hi : i < xs.length), w.cell? ⟨b, off + i, none⟩ = some (.int .i64 xs[i]) := by
  obtain ⟨b, off, e, hc⟩ := Sl.at (j := j) h (by simpa using hj)
  refine ⟨b, off, e, fun i hi => ?_⟩
  have := hc i (by simpa using hi)
  rw [this]
  simp

theorem orI_skip (xs : List Int) : ∀ k, k ≤ xs.length → (∀ i, (h : i < xs.length) → i < k → xs[i] = 0) → orI xs = orI (xs.drop k) := by
  induction xs with
  | nil => intro k _ _; simp
  | cons x xs ih =>
    intro k hk h
    cases k with
    | zero => rfl
    | succ k =>
      have hx : x = 0 := h 0 (by simp) (by omega)
      rw [List.drop_succ_cons, ← ih k (by simpa using hk) (fun i hi hik => by have := h (i + 1) (by simpa using hi) (by omega); rwa [List.getElem_cons_succ] at this)]
      simp [orI, hx]
end Go.Proofs.YtljpfocmnppjgaaDoor
