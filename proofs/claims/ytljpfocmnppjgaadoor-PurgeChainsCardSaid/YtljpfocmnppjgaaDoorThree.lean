/- Slices of structs of three cells. No program. -/
import Derived.Test.YtljpfocmnppjgaaDoorBase
namespace Go.Proofs.YtljpfocmnppjgaaDoor
open Go Go.RowKit

/-- What a struct's three cells hold. -/
structure Three (α : Type) where
  c0 : α → Value
  c1 : α → Value
  c2 : α → Value
namespace Three
variable {α : Type} (E : Three α)
def cells (l : List α) : List Value := l.flatMap fun a => [E.c0 a, E.c1 a, E.c2 a]
theorem cells_nil : E.cells [] = [] := rfl
theorem cells_cons (a : α) (l : List α) : E.cells (a :: l) = E.c0 a :: E.c1 a :: E.c2 a :: E.cells l := rfl
theorem cells_length : ∀ l, (E.cells l).length = l.length * 3
  | [] => rfl
  | a :: l => by rw [cells_cons, List.length_cons, List.length_cons, List.length_cons, cells_length l, List.length_cons]; omega
theorem cells_append (l m : List α) : E.cells (l ++ m) = E.cells l ++ E.cells m := by simp [cells]
theorem cells_one (a : α) : E.cells [a] = [E.c0 a, E.c1 a, E.c2 a] := rfl
theorem cells_drop : ∀ (l : List α) (k : Nat), (E.cells l).drop (k * 3) = E.cells (l.drop k)
  | _, 0 => by simp
  | [], k + 1 => by simp [cells]
  | a :: l, k + 1 => by
    rw [cells_cons, show (k + 1) * 3 = k * 3 + 1 + 1 + 1 by omega, List.drop_succ_cons, List.drop_succ_cons, List.drop_succ_cons, cells_drop l k, List.drop_succ_cons]
theorem cells_take : ∀ (l : List α) (k : Nat), (E.cells l).take (k * 3) = E.cells (l.take k)
  | _, 0 => by simp [cells]
  | [], k + 1 => by simp [cells]
  | a :: l, k + 1 => by
    rw [cells_cons, show (k + 1) * 3 = k * 3 + 1 + 1 + 1 by omega, List.take_succ_cons, List.take_succ_cons, List.take_succ_cons, cells_take l k, List.take_succ_cons, cells_cons]
theorem cells_at : ∀ (l : List α) (i : Nat) (hi : i < l.length), (E.cells l)[i * 3]? = some (E.c0 l[i]) ∧ (E.cells l)[i * 3 + 1]? = some (E.c1 l[i]) ∧ (E.cells l)[i * 3 + 2]? = some (E.c2 l[i])
  | [], i, hi => by simp at hi
  | a :: l, 0, _ => by simp [cells_cons]
  | a :: l, i + 1, hi => by
    have ih := cells_at l i (by simpa using hi)
    rw [cells_cons, show (i + 1) * 3 = i * 3 + 1 + 1 + 1 by omega]
    simpa using ih
theorem cells_set : ∀ (l : List α) (i : Nat) (_ : i < l.length) (a : α), (((E.cells l).set (i * 3) (E.c0 a)).set (i * 3 + 1) (E.c1 a)).set (i * 3 + 2) (E.c2 a) = E.cells (l.set i a)
  | [], i, hi, _ => by simp at hi
  | b :: l, 0, _, a => by simp [cells_cons]
  | b :: l, i + 1, hi, a => by
    have ih := cells_set l i (by simpa using hi) a
    rw [cells_cons, show (i + 1) * 3 = i * 3 + 1 + 1 + 1 by omega, List.set_cons_succ (xs := l), cells_cons, ← ih]
    show (((E.c0 b :: E.c1 b :: E.c2 b :: E.cells l).set (i * 3 + 1 + 1 + 1) (E.c0 a)).set ((i * 3 + 1) + 1 + 1 + 1) (E.c1 a)).set ((i * 3 + 2) + 1 + 1 + 1) (E.c2 a) = _
    simp only [List.set_cons_succ]

/-- The slice value v reads as the structs l. -/
def Ss (w : World) (v : Value) (l : List α) : Prop := Sl w 3 l.length v (E.cells l)
variable {E}
theorem Ss.below {w w' : World} {v : Value} {l : List α} (h : E.Ss w v l) (hb : Below w.heap.size w w') : E.Ss w' v l := Sl.below h hb
theorem Ss.nil (w : World) : E.Ss w (.slice none 0 0) [] := Sl.nil w 3
theorem Ss.shape {w : World} {v : Value} {l : List α} (h : E.Ss w v l) : ∃ ao cap, v = .slice ao l.length cap ∧ l.length ≤ cap := Sl.shape h
theorem Ss.len {w : World} {v : Value} {l : List α} (h : E.Ss w v l) : l.length ≤ 9223372036854775807 := by
  obtain ⟨_, ao, cap, _, h1, h2, _⟩ := h
  unfold maxLen at h2
  omega
theorem Ss.of_owns {w : World} {base e n : Nat} {v : Value} {l : List α} (h : w.ownsRow base e 3 v n (E.cells l)) : E.Ss w v l := by
  have := Sl.of_owns h
  have e : n = l.length := by have h1 := h.1; rw [cells_length] at h1; omega
  subst e
  exact this
theorem Ss.at {w : World} {ao : Option Addr} {len cap : Nat} {l : List α} (h : E.Ss w (.slice ao len cap) l) {j : Nat} (hj : j < l.length) :
    ∃ b off, ao = some ⟨b, off, none⟩ ∧ ∀ i (hi : i < l.length), w.cell? ⟨b, off + i * 3, none⟩ = some (E.c0 l[i]) ∧ w.cell? ⟨b, off + i * 3 + 1, none⟩ = some (E.c1 l[i]) ∧ w.cell? ⟨b, off + i * 3 + 2, none⟩ = some (E.c2 l[i]) := by
  have hc3 := E.cells_length l
  obtain ⟨b, off, e, hc⟩ := Sl.at (j := j * 3) h (by omega)
  refine ⟨b, off, e, fun i hi => ?_⟩
  obtain ⟨h0, h1, h2⟩ := E.cells_at l i hi
  obtain ⟨p0, q0⟩ := List.getElem?_eq_some_iff.1 h0
  obtain ⟨p1, q1⟩ := List.getElem?_eq_some_iff.1 h1
  obtain ⟨p2, q2⟩ := List.getElem?_eq_some_iff.1 h2
  exact ⟨by rw [hc _ p0, q0], by rw [Nat.add_assoc, hc _ p1, q1], by rw [Nat.add_assoc, hc _ p2, q2]⟩
theorem own_cell3 {w : World} {base n cap g : Nat} {e : TypeId} {m : List α} (h : w.ownsRow base e 3 (.slice (some ⟨g, 0, none⟩) n cap) n (E.cells m)) (j : Nat) (hj : j < m.length) :
    w.cell? ⟨g, j * 3, none⟩ = some (E.c0 m[j]) ∧ w.cell? ⟨g, j * 3 + 1, none⟩ = some (E.c1 m[j]) ∧ w.cell? ⟨g, j * 3 + 2, none⟩ = some (E.c2 m[j]) := by
  have hl := h.1
  rw [cells_length] at hl
  obtain ⟨h0, h1, h2⟩ := E.cells_at m j hj
  exact ⟨by rw [h.cellAt _ (by omega), h0], by rw [h.cellAt _ (by omega), h1], by rw [h.cellAt _ (by omega), h2]⟩
theorem own_store3 {w : World} {base n cap g : Nat} {e : TypeId} {m : List α} (h : w.ownsRow base e 3 (.slice (some ⟨g, 0, none⟩) n cap) n (E.cells m)) (j : Nat) (hj : j < m.length) (y : α) :
    (((w.setCell ⟨g, j * 3, none⟩ (E.c0 y)).setCell ⟨g, j * 3 + 1, none⟩ (E.c1 y)).setCell ⟨g, j * 3 + 2, none⟩ (E.c2 y)).ownsRow base e 3 (.slice (some ⟨g, 0, none⟩) n cap) n (E.cells (m.set j y)) := by
  have := (((h.stored (j * 3) (E.c0 y)).1.stored (j * 3 + 1) (E.c1 y)).1.stored (j * 3 + 2) (E.c2 y)).1
  rw [E.cells_set m j hj y] at this
  exact this
/-- What the walk asks of the three stores. -/
theorem own_go3 {w : World} {base n cap g : Nat} {e : TypeId} {m : List α} (h : w.ownsRow base e 3 (.slice (some ⟨g, 0, none⟩) n cap) n (E.cells m)) (j : Nat) (hj : j < m.length) (y : α) :
    ∃ v0 v1 v2, w.cell? ⟨g, j * 3, none⟩ = some v0 ∧ w.frozen? ⟨g, j * 3, none⟩ = false
      ∧ (w.setCell ⟨g, j * 3, none⟩ (E.c0 y)).cell? ⟨g, j * 3 + 1, none⟩ = some v1 ∧ (w.setCell ⟨g, j * 3, none⟩ (E.c0 y)).frozen? ⟨g, j * 3 + 1, none⟩ = false
      ∧ ((w.setCell ⟨g, j * 3, none⟩ (E.c0 y)).setCell ⟨g, j * 3 + 1, none⟩ (E.c1 y)).cell? ⟨g, j * 3 + 2, none⟩ = some v2 ∧ ((w.setCell ⟨g, j * 3, none⟩ (E.c0 y)).setCell ⟨g, j * 3 + 1, none⟩ (E.c1 y)).frozen? ⟨g, j * 3 + 2, none⟩ = false := by
  have hl := h.1
  rw [cells_length] at hl
  have h1 := (h.stored (j * 3) (E.c0 y)).1
  have h2 := (h1.stored (j * 3 + 1) (E.c1 y)).1
  refine ⟨(E.cells m)[j * 3]'(by rw [cells_length]; omega), ((E.cells m).set (j * 3) (E.c0 y))[j * 3 + 1]'(by rw [List.length_set, cells_length]; omega), (((E.cells m).set (j * 3) (E.c0 y)).set (j * 3 + 1) (E.c1 y))[j * 3 + 2]'(by rw [List.length_set, List.length_set, cells_length]; omega), ?_, h.frozenAt _, ?_, h1.frozenAt _, ?_, h2.frozenAt _⟩
  · rw [h.cellAt _ (by omega)]; exact List.getElem?_eq_getElem _
  · rw [h1.cellAt _ (by omega)]; exact List.getElem?_eq_getElem _
  · rw [h2.cellAt _ (by omega)]; exact List.getElem?_eq_getElem _
end Three
end Go.Proofs.YtljpfocmnppjgaaDoor
