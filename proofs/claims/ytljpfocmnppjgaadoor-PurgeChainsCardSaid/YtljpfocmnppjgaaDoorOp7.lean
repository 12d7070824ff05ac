/- What op.Trim returns. -/
import Derived.Test.YtljpfocmnppjgaaDoorOp6
namespace Go.Proofs.YtljpfocmnppjgaaDoor
open Go Go.RowKit

/-- A block of an operation. -/
def Bop (w : World) (p : Nat) (r : Rop) : Prop := w.heap[p]? = some (.cells #[.int .i64 r.kind, .int .i64 r.level, .int .i64 r.ses, .int .i64 r.snap, .string (str r.bucket), .string (str r.key), .string (str r.val), .int .i64 r.label, .int .i64 r.to, .int .i64 r.n, r.keep] 34 (0, 0))
theorem Bop.lt {w : World} {p : Nat} {r : Rop} (h : Bop w p r) : p < w.heap.size := (Array.getElem?_eq_some_iff.1 h).1
theorem Bop.later {w w' : World} {p : Nat} {r : Rop} (h : Bop w p r) (hb : Below w.heap.size w w') : Bop w' p r := (hb.block p h.lt).trans h
theorem Bop.below {w w' : World} {p B : Nat} {r : Rop} (h : Bop w p r) (hb : Below B w w') (hp : p < B) : Bop w' p r := (hb.block p hp).trans h
theorem Bop.at {w : World} {p : Nat} {r : Rop} (h : Bop w p r) : OpAt w p 0 r :=
  ⟨cell_of_row w p 0 _ _ (0, 0) h, cell_of_row w p 1 _ _ (0, 0) h, cell_of_row w p 2 _ _ (0, 0) h, cell_of_row w p 3 _ _ (0, 0) h, cell_of_row w p 4 _ _ (0, 0) h, cell_of_row w p 5 _ _ (0, 0) h, cell_of_row w p 6 _ _ (0, 0) h, cell_of_row w p 7 _ _ (0, 0) h, cell_of_row w p 8 _ _ (0, 0) h, cell_of_row w p 9 _ _ (0, 0) h, cell_of_row w p 10 _ _ (0, 0) h⟩
theorem Bop.frozen {w : World} {p : Nat} {r : Rop} (h : Bop w p r) (i : Nat) : w.frozen? ⟨p, i, none⟩ = false := frozen_of_row w p i _ _ h
theorem Bop.far {w : World} {p : Nat} {r : Rop} (h : Bop w p r) {q : Addr} (hq : p ≠ q.block) (u : Value) : Bop (w.setCell q u) p r := (Below.heap_setCell w q u p hq).trans h
theorem Bop.set10 {w : World} {p : Nat} {r : Rop} (h : Bop w p r) (u : Value) : Bop (w.setCell ⟨p, 10, none⟩ u) p (r.put u) := by
  have := heap_setCell_same w p 10 _ _ u h
  simpa [Bop, Op11.put] using this
theorem Bop.set1 {w : World} {p : Nat} {r : Rop} (h : Bop w p r) (x : Int) : Bop (w.setCell ⟨p, 1, none⟩ (.int .i64 x)) p { r with level := x } := by
  have := heap_setCell_same w p 1 _ _ (.int .i64 x) h
  simpa [Bop] using this
theorem Bop.set2 {w : World} {p : Nat} {r : Rop} (h : Bop w p r) (x : Int) : Bop (w.setCell ⟨p, 2, none⟩ (.int .i64 x)) p { r with ses := x } := by
  have := heap_setCell_same w p 2 _ _ (.int .i64 x) h
  simpa [Bop] using this
theorem Bop.set9 {w : World} {p : Nat} {r : Rop} (h : Bop w p r) (x : Int) : Bop (w.setCell ⟨p, 9, none⟩ (.int .i64 x)) p { r with n := x } := by
  have := heap_setCell_same w p 9 _ _ (.int .i64 x) h
  simpa [Bop] using this

namespace L
/-- The texts, the first k of them seen to. -/
def kept (p : Int → Bool) (l : List (List UInt8)) (k : Nat) : List (List UInt8) := (keeps p l).take k ++ l.drop k
theorem kept_start (p : Int → Bool) (l : List (List UInt8)) : kept p l 0 = l := rfl
theorem kept_end (p : Int → Bool) (l : List (List UInt8)) : kept p l l.length = keeps p l := by
  unfold kept
  rw [List.drop_length, List.append_nil, List.take_of_length_le (by rw [keeps_length]; exact Nat.le_refl _)]
theorem kept_length (p : Int → Bool) (l : List (List UInt8)) (k : Nat) : (kept p l k).length = l.length := by
  unfold kept
  rw [List.length_append, List.length_take, List.length_drop, keeps_length]
  omega
theorem kept_yes {p : Int → Bool} {l : List (List UInt8)} {k : Nat} (hk : k < l.length) (h : p (k : Int) = true) : kept p l (k + 1) = kept p l k := by
  unfold kept
  rw [List.take_succ_eq_append_getElem (by rw [keeps_length]; exact hk), keeps_at, h, if_pos rfl, List.append_assoc, List.drop_eq_getElem_cons hk]
  rfl
theorem kept_no {p : Int → Bool} {l : List (List UInt8)} {k : Nat} (hk : k < l.length) (h : p (k : Int) = false) : kept p l (k + 1) = (kept p l k).set k [] := by
  unfold kept
  have hl : ((keeps p l).take k).length = k := by rw [List.length_take, keeps_length]; omega
  rw [List.take_succ_eq_append_getElem (by rw [keeps_length]; exact hk), keeps_at, h, if_neg (by decide), List.append_assoc, List.set_append_right _ _ (by omega), hl, Nat.sub_self, List.drop_eq_getElem_cons hk]
  rfl
end L
theorem strCells_set (l : List (List UInt8)) (j : Nat) (x : List UInt8) : (strCells l).set j (.string (str x)) = strCells (l.set j x) := by
  unfold strCells
  rw [List.map_set]

/-- A block that is known whole. -/
def Rowq (w : World) (q : Nat) (cs : Array Value) : Prop := w.heap[q]? = some (.cells cs 34 (0, 0)) ∧ cs.size = 11
theorem Rowq.step {w : World} {q : Nat} {cs : Array Value} (h : Rowq w q cs) (i : Nat) (hi : i < 11) (v : Value) : (∃ v0, w.cell? ⟨q, i, none⟩ = some v0) ∧ w.frozen? ⟨q, i, none⟩ = false ∧ Rowq (w.setCell ⟨q, i, none⟩ v) q (cs.setIfInBounds i v) :=
  ⟨⟨cs[i]'(by rw [h.2]; exact hi), by rw [cell_of_row w q i _ _ (0, 0) h.1]; exact Array.getElem?_eq_getElem _⟩, frozen_of_row w q i _ _ h.1, heap_setCell_same w q i _ _ v h.1, by rw [Array.size_setIfInBounds]; exact h.2⟩
theorem Rowq.later {w w' : World} {q : Nat} {cs : Array Value} (h : Rowq w q cs) (hb : Below w.heap.size w w') : Rowq w' q cs := ⟨(hb.block q (Array.getElem?_eq_some_iff.1 h.1).1).trans h.1, h.2⟩
theorem Rowq.far {w : World} {q : Nat} {cs : Array Value} (h : Rowq w q cs) {a : Addr} (ha : q ≠ a.block) (u : Value) : Rowq (w.setCell a u) q cs := ⟨(Below.heap_setCell w a u q ha).trans h.1, h.2⟩
abbrev zeroOp : Array Value := #[.int .i64 0, .int .i64 0, .int .i64 0, .int .i64 0, .string (str []), .string (str []), .string (str []), .int .i64 0, .int .i64 0, .int .i64 0, .slice none 0 0]
/-- The world, an operation stored. -/
abbrev OpW (w : World) (q : Nat) (r : Rop) : World := (((((((((((w.setCell ⟨q, 0, none⟩ (.int .i64 r.kind)).setCell ⟨q, 1, none⟩ (.int .i64 r.level)).setCell ⟨q, 2, none⟩ (.int .i64 r.ses)).setCell ⟨q, 3, none⟩ (.int .i64 r.snap)).setCell ⟨q, 4, none⟩ (.string (str r.bucket))).setCell ⟨q, 5, none⟩ (.string (str r.key))).setCell ⟨q, 6, none⟩ (.string (str r.val))).setCell ⟨q, 7, none⟩ (.int .i64 r.label)).setCell ⟨q, 8, none⟩ (.int .i64 r.to)).setCell ⟨q, 9, none⟩ (.int .i64 r.n)).setCell ⟨q, 10, none⟩ (r.keep))
theorem Rowq.all {w : World} {q : Nat} (h : Rowq w q zeroOp) (r : Rop) :
    ((∃ v0, w.cell? ⟨q, 0, none⟩ = some v0) ∧ w.frozen? ⟨q, 0, none⟩ = false) ∧ ((∃ v0, (w.setCell ⟨q, 0, none⟩ (.int .i64 r.kind)).cell? ⟨q, 1, none⟩ = some v0) ∧ (w.setCell ⟨q, 0, none⟩ (.int .i64 r.kind)).frozen? ⟨q, 1, none⟩ = false) ∧ ((∃ v0, ((w.setCell ⟨q, 0, none⟩ (.int .i64 r.kind)).setCell ⟨q, 1, none⟩ (.int .i64 r.level)).cell? ⟨q, 2, none⟩ = some v0) ∧ ((w.setCell ⟨q, 0, none⟩ (.int .i64 r.kind)).setCell ⟨q, 1, none⟩ (.int .i64 r.level)).frozen? ⟨q, 2, none⟩ = false) ∧ ((∃ v0, (((w.setCell ⟨q, 0, none⟩ (.int .i64 r.kind)).setCell ⟨q, 1, none⟩ (.int .i64 r.level)).setCell ⟨q, 2, none⟩ (.int .i64 r.ses)).cell? ⟨q, 3, none⟩ = some v0) ∧ (((w.setCell ⟨q, 0, none⟩ (.int .i64 r.kind)).setCell ⟨q, 1, none⟩ (.int .i64 r.level)).setCell ⟨q, 2, none⟩ (.int .i64 r.ses)).frozen? ⟨q, 3, none⟩ = false) ∧ ((∃ v0, ((((w.setCell ⟨q, 0, none⟩ (.int .i64 r.kind)).setCell ⟨q, 1, none⟩ (.int .i64 r.level)).setCell ⟨q, 2, none⟩ (.int .i64 r.ses)).setCell ⟨q, 3, none⟩ (.int .i64 r.snap)).cell? ⟨q, 4, none⟩ = some v0) ∧ ((((w.setCell ⟨q, 0, none⟩ (.int .i64 r.kind)).setCell ⟨q, 1, none⟩ (.int .i64 r.level)).setCell ⟨q, 2, none⟩ (.int .i64 r.ses)).setCell ⟨q, 3, none⟩ (.int .i64 r.snap)).frozen? ⟨q, 4, none⟩ = false) ∧ ((∃ v0, (((((w.setCell ⟨q, 0, none⟩ (.int .i64 r.kind)).setCell ⟨q, 1, none⟩ (.int .i64 r.level)).setCell ⟨q, 2, none⟩ (.int .i64 r.ses)).setCell ⟨q, 3, none⟩ (.int .i64 r.snap)).setCell ⟨q, 4, none⟩ (.string (str r.bucket))).cell? ⟨q, 5, none⟩ = some v0) ∧ (((((w.setCell ⟨q, 0, none⟩ (.int .i64 r.kind)).setCell ⟨q, 1, none⟩ (.int .i64 r.level)).setCell ⟨q, 2, none⟩ (.int .i64 r.ses)).setCell ⟨q, 3, none⟩ (.int .i64 r.snap)).setCell ⟨q, 4, none⟩ (.string (str r.bucket))).frozen? ⟨q, 5, none⟩ = false) ∧ ((∃ v0, ((((((w.setCell ⟨q, 0, none⟩ (.int .i64 r.kind)).setCell ⟨q, 1, none⟩ (.int .i64 r.level)).setCell ⟨q, 2, none⟩ (.int .i64 r.ses)).setCell ⟨q, 3, none⟩ (.int .i64 r.snap)).setCell ⟨q, 4, none⟩ (.string (str r.bucket))).setCell ⟨q, 5, none⟩ (.string (str r.key))).cell? ⟨q, 6, none⟩ = some v0) ∧ ((((((w.setCell ⟨q, 0, none⟩ (.int .i64 r.kind)).setCell ⟨q, 1, none⟩ (.int .i64 r.level)).setCell ⟨q, 2, none⟩ (.int .i64 r.ses)).setCell ⟨q, 3, none⟩ (.int .i64 r.snap)).setCell ⟨q, 4, none⟩ (.string (str r.bucket))).setCell ⟨q, 5, none⟩ (.string (str r.key))).frozen? ⟨q, 6, none⟩ = false) ∧ ((∃ v0, (((((((w.setCell ⟨q, 0, none⟩ (.int .i64 r.kind)).setCell ⟨q, 1, none⟩ (.int .i64 r.level)).setCell ⟨q, 2, none⟩ (.int .i64 r.ses)).setCell ⟨q, 3, none⟩ (.int .i64 r.snap)).setCell ⟨q, 4, none⟩ (.string (str r.bucket))).setCell ⟨q, 5, none⟩ (.string (str r.key))).setCell ⟨q, 6, none⟩ (.string (str r.val))).cell? ⟨q, 7, none⟩ = some v0) ∧ (((((((w.setCell ⟨q, 0, none⟩ (.int .i64 r.kind)).setCell ⟨q, 1, none⟩ (.int .i64 r.level)).setCell ⟨q, 2, none⟩ (.int .i64 r.ses)).setCell ⟨q, 3, none⟩ (.int .i64 r.snap)).setCell ⟨q, 4, none⟩ (.string (str r.bucket))).setCell ⟨q, 5, none⟩ (.string (str r.key))).setCell ⟨q, 6, none⟩ (.string (str r.val))).frozen? ⟨q, 7, none⟩ = false) ∧ ((∃ v0, ((((((((w.setCell ⟨q, 0, none⟩ (.int .i64 r.kind)).setCell ⟨q, 1, none⟩ (.int .i64 r.level)).setCell ⟨q, 2, none⟩ (.int .i64 r.ses)).setCell ⟨q, 3, none⟩ (.int .i64 r.snap)).setCell ⟨q, 4, none⟩ (.string (str r.bucket))).setCell ⟨q, 5, none⟩ (.string (str r.key))).setCell ⟨q, 6, none⟩ (.string (str r.val))).setCell ⟨q, 7, none⟩ (.int .i64 r.label)).cell? ⟨q, 8, none⟩ = some v0) ∧ ((((((((w.setCell ⟨q, 0, none⟩ (.int .i64 r.kind)).setCell ⟨q, 1, none⟩ (.int .i64 r.level)).setCell ⟨q, 2, none⟩ (.int .i64 r.ses)).setCell ⟨q, 3, none⟩ (.int .i64 r.snap)).setCell ⟨q, 4, none⟩ (.string (str r.bucket))).setCell ⟨q, 5, none⟩ (.string (str r.key))).setCell ⟨q, 6, none⟩ (.string (str r.val))).setCell ⟨q, 7, none⟩ (.int .i64 r.label)).frozen? ⟨q, 8, none⟩ = false) ∧ ((∃ v0, (((((((((w.setCell ⟨q, 0, none⟩ (.int .i64 r.kind)).setCell ⟨q, 1, none⟩ (.int .i64 r.level)).setCell ⟨q, 2, none⟩ (.int .i64 r.ses)).setCell ⟨q, 3, none⟩ (.int .i64 r.snap)).setCell ⟨q, 4, none⟩ (.string (str r.bucket))).setCell ⟨q, 5, none⟩ (.string (str r.key))).setCell ⟨q, 6, none⟩ (.string (str r.val))).setCell ⟨q, 7, none⟩ (.int .i64 r.label)).setCell ⟨q, 8, none⟩ (.int .i64 r.to)).cell? ⟨q, 9, none⟩ = some v0) ∧ (((((((((w.setCell ⟨q, 0, none⟩ (.int .i64 r.kind)).setCell ⟨q, 1, none⟩ (.int .i64 r.level)).setCell ⟨q, 2, none⟩ (.int .i64 r.ses)).setCell ⟨q, 3, none⟩ (.int .i64 r.snap)).setCell ⟨q, 4, none⟩ (.string (str r.bucket))).setCell ⟨q, 5, none⟩ (.string (str r.key))).setCell ⟨q, 6, none⟩ (.string (str r.val))).setCell ⟨q, 7, none⟩ (.int .i64 r.label)).setCell ⟨q, 8, none⟩ (.int .i64 r.to)).frozen? ⟨q, 9, none⟩ = false) ∧ ((∃ v0, ((((((((((w.setCell ⟨q, 0, none⟩ (.int .i64 r.kind)).setCell ⟨q, 1, none⟩ (.int .i64 r.level)).setCell ⟨q, 2, none⟩ (.int .i64 r.ses)).setCell ⟨q, 3, none⟩ (.int .i64 r.snap)).setCell ⟨q, 4, none⟩ (.string (str r.bucket))).setCell ⟨q, 5, none⟩ (.string (str r.key))).setCell ⟨q, 6, none⟩ (.string (str r.val))).setCell ⟨q, 7, none⟩ (.int .i64 r.label)).setCell ⟨q, 8, none⟩ (.int .i64 r.to)).setCell ⟨q, 9, none⟩ (.int .i64 r.n)).cell? ⟨q, 10, none⟩ = some v0) ∧ ((((((((((w.setCell ⟨q, 0, none⟩ (.int .i64 r.kind)).setCell ⟨q, 1, none⟩ (.int .i64 r.level)).setCell ⟨q, 2, none⟩ (.int .i64 r.ses)).setCell ⟨q, 3, none⟩ (.int .i64 r.snap)).setCell ⟨q, 4, none⟩ (.string (str r.bucket))).setCell ⟨q, 5, none⟩ (.string (str r.key))).setCell ⟨q, 6, none⟩ (.string (str r.val))).setCell ⟨q, 7, none⟩ (.int .i64 r.label)).setCell ⟨q, 8, none⟩ (.int .i64 r.to)).setCell ⟨q, 9, none⟩ (.int .i64 r.n)).frozen? ⟨q, 10, none⟩ = false) ∧ Bop (OpW w q r) q r := by
  obtain ⟨a0, b0, h1⟩ := h.step 0 (by decide) (.int .i64 r.kind)
  obtain ⟨a1, b1, h2⟩ := h1.step 1 (by decide) (.int .i64 r.level)
  obtain ⟨a2, b2, h3⟩ := h2.step 2 (by decide) (.int .i64 r.ses)
  obtain ⟨a3, b3, h4⟩ := h3.step 3 (by decide) (.int .i64 r.snap)
  obtain ⟨a4, b4, h5⟩ := h4.step 4 (by decide) (.string (str r.bucket))
  obtain ⟨a5, b5, h6⟩ := h5.step 5 (by decide) (.string (str r.key))
  obtain ⟨a6, b6, h7⟩ := h6.step 6 (by decide) (.string (str r.val))
  obtain ⟨a7, b7, h8⟩ := h7.step 7 (by decide) (.int .i64 r.label)
  obtain ⟨a8, b8, h9⟩ := h8.step 8 (by decide) (.int .i64 r.to)
  obtain ⟨a9, b9, h10⟩ := h9.step 9 (by decide) (.int .i64 r.n)
  obtain ⟨a10, b10, h11⟩ := h10.step 10 (by decide) (r.keep)
  refine ⟨⟨a0, b0⟩, ⟨a1, b1⟩, ⟨a2, b2⟩, ⟨a3, b3⟩, ⟨a4, b4⟩, ⟨a5, b5⟩, ⟨a6, b6⟩, ⟨a7, b7⟩, ⟨a8, b8⟩, ⟨a9, b9⟩, ⟨a10, b10⟩, ?_⟩
  have := h11.1
  simpa [Bop, zeroOp] using this
theorem below_opw {base q : Nat} {w w' : World} (h : Below base w w') (hq : base ≤ q) (r : Rop) : Below base w (OpW w' q r) := (((((((((((h.setCell (p := ⟨q, 0, none⟩) hq _).setCell (p := ⟨q, 1, none⟩) hq _).setCell (p := ⟨q, 2, none⟩) hq _).setCell (p := ⟨q, 3, none⟩) hq _).setCell (p := ⟨q, 4, none⟩) hq _).setCell (p := ⟨q, 5, none⟩) hq _).setCell (p := ⟨q, 6, none⟩) hq _).setCell (p := ⟨q, 7, none⟩) hq _).setCell (p := ⟨q, 8, none⟩) hq _).setCell (p := ⟨q, 9, none⟩) hq _).setCell (p := ⟨q, 10, none⟩) hq _)
theorem own_opw {w : World} {base t sz n : Nat} {u : Value} {cs : List Value} (h : w.ownsRow base t sz u n cs) {q : Nat} (hq : q < base) (r : Rop) : (OpW w q r).ownsRow base t sz u n cs := (ownsRow_setCell_below (ownsRow_setCell_below (ownsRow_setCell_below (ownsRow_setCell_below (ownsRow_setCell_below (ownsRow_setCell_below (ownsRow_setCell_below (ownsRow_setCell_below (ownsRow_setCell_below (ownsRow_setCell_below (ownsRow_setCell_below h (a := ⟨q, 0, none⟩) hq _) (a := ⟨q, 1, none⟩) hq _) (a := ⟨q, 2, none⟩) hq _) (a := ⟨q, 3, none⟩) hq _) (a := ⟨q, 4, none⟩) hq _) (a := ⟨q, 5, none⟩) hq _) (a := ⟨q, 6, none⟩) hq _) (a := ⟨q, 7, none⟩) hq _) (a := ⟨q, 8, none⟩) hq _) (a := ⟨q, 9, none⟩) hq _) (a := ⟨q, 10, none⟩) hq _)
theorem results_cell {fn : Func} {p : Tmp} {ty : TypeId} (h : fn.results = #[.cell p ty]) (tmps : Array Value) (P : Program) (w : World) :
    (results fn tmps).run P w = ((asAddr (tmps.getD p undef)).run P w).andThen fun a w₁ => (loadVar ty a).run P w₁ := by
  simp only [results, h]
  simp [Sem.run_bind, Result.andThen]
theorem trim_results (tmps : Array Value) (w : World) (b : Nat) (r : Rop) (hp : tmps.getD 6 undef = .pointer (some ⟨b, 0, none⟩)) (hc : Bop w b r) :
    (results Tryd.f31 tmps).run Tryd.prog w = .ok (opv r) w := by
  obtain ⟨p0, p1, p2, p3, p4, p5, p6, p7, p8, p9, p10⟩ := hc.at
  rw [results_cell rfl, hp]
  go_simp
/-- What the call made, as a slice of texts. -/
theorem own_strs {w : World} {base n : Nat} {v : Value} {l : List (List UInt8)} (h : w.ownsRow base 9 1 v n (strCells l)) : ∃ a c, v = .slice a n c ∧ (0 < n → ∃ g, a = some ⟨g, 0, none⟩ ∧ base ≤ g) := by
  rcases h.2 with ⟨e, h0⟩ | ⟨g, c, cur, e, hg, -⟩
  · subst h0
    exact ⟨_, _, e, fun h => by omega⟩
  · exact ⟨_, _, e, fun _ => ⟨g, rfl, hg⟩⟩

set_option maxRecDepth 4000 in
set_option maxHeartbeats 4000000 in
theorem trim_any (vu : Value) (us : List Nat) (o : Opr) (u : Value) (level : Int) (w : World) (hu : Us w vu us) (hU : U64s us) (hk : Ks w u o.keep) (hlen : o.keep.length ≤ 100000) :
    Calls Tryd.prog 31 #[vu, opv (o.put u), .int .i64 level] w fun e w' => ∃ u', e = .returned (opv ((L.trim (fun a => L.leq us a level) o).put u')) ∧ ((u' = u ∧ (L.trim (fun a => L.leq us a level) o).keep = o.keep) ∨ w'.ownsRow w.heap.size 9 1 u' (L.trim (fun a => L.leq us a level) o).keep.length (strCells (L.trim (fun a => L.leq us a level) o).keep)) ∧ Below w.heap.size w w' := by
  have HQ := Lib.hid (fun W (hW : Below w.heap.size w W) (a : Int) => leq_any vu us a level W (hu.below hW) hU)
  have HK := Lib.hid hk
  obtain ⟨ua, uc, rfl, -⟩ := hk.shape
  clear hk hu
  by_cases h16 : o.kind = 16
  · obtain ⟨o0, o1, o2, o3, o4, o5, o6, o7, o8, o9, k⟩ := o
    simp only [] at h16 hlen HK
    subst h16
    have HTRg : Hid (L.trim (fun a => L.leq us a level) ⟨16, o1, o2, o3, o4, o5, o6, o7, o8, o9, k⟩ = if L.leq us o1 level then ⟨16, o1, o2, o3, o4, o5, o6, o7, o8, o9, L.keeps (fun a => L.leq us a level) k⟩ else ⟨16, 0, 0, o3, o4, o5, o6, o7, o8, 0, L.keeps (fun a => L.leq us a level) k⟩) := rfl
    obtain ⟨uq, hq⟩ : ∃ uq, k.length = uq := ⟨_, rfl⟩
    have HKq := Lib.hid hq
    rw [hq] at hlen HK
    try rw [hq]
    clear hq
    obtain ⟨w1, hw1⟩ : ∃ w1, (w.alloc (.cells #[.int .i64 16, .int .i64 o1, .int .i64 o2, .int .i64 o3, .string (str o4), .string (str o5), .string (str o6), .int .i64 o7, .int .i64 o8, .int .i64 o9, .slice ua uq uc] 34)).alloc (.cells zeroOp 34) = w1 := ⟨_, rfl⟩
    obtain ⟨B, hB⟩ : ∃ B, w.heap.size = B := ⟨_, rfl⟩
    have HB := Lib.hid hB
    have hb1 : Below B w w1 := by rw [← hw1]; exact ((Below.refl _ _).alloc (Nat.le_of_eq hB.symm) _).alloc (by simp; omega) _
    have hs1 : w1.heap.size = B + 2 := by rw [← hw1]; simp; omega
    have x1 : Bop w1 B ⟨16, o1, o2, o3, o4, o5, o6, o7, o8, o9, .slice ua uq uc⟩ := by
      unfold Bop
      rw [← hw1, ← hB]
      exact (Below.heap_alloc _ _ _ (by simp)).trans (heap_alloc_new _ _)
    have x2 : Rowq w1 (B + 1) zeroOp := by
      have := heap_alloc_new (w.alloc (.cells #[.int .i64 16, .int .i64 o1, .int .i64 o2, .int .i64 o3, .string (str o4), .string (str o5), .string (str o6), .int .i64 o7, .int .i64 o8, .int .i64 o9, .slice ua uq uc] 34)) (.cells zeroOp 34)
      rw [World.size_alloc, hB, hw1] at this
      exact ⟨this, rfl⟩
    have s := Lib.hid (strClone_any (.slice ua uq uc) k w1 (HK.out.below (by rw [hB]; exact hb1)) (by rw [HKq.out]; exact hlen))
    have X1 := Lib.hid x1
    have X2 := Lib.hid x2
    have hb1 := Lib.hid hb1
    clear x1 x2
    simp only [Op11.put]
    go_enter Tryd.func31, Tryd.ntmps31
    go_wp2_with fail
    rw [show ((w.alloc (.cells #[.int .i64 16, .int .i64 o1, .int .i64 o2, .int .i64 o3, .string (str o4), .string (str o5), .string (str o6), .int .i64 o7, .int .i64 o8, .int .i64 o9, .slice ua uq uc] 34)).alloc (.cells #[.int .i64 0, .int .i64 0, .int .i64 0, .int .i64 0, .string ⟨#[]⟩, .string ⟨#[]⟩, .string ⟨#[]⟩, .int .i64 0, .int .i64 0, .int .i64 0, .slice none 0 0] 34)) = w1 from hw1]
    clear hw1
    refine s.out.mono ?_
    rintro e w2 ⟨v', rfl, hown, hb2⟩
    rw [HKq.out, hs1] at hown
    obtain ⟨a', c', rfl, hsh⟩ := own_strs hown
    have HSH := Lib.hid hsh
    have Y1 := Lib.hid (X1.out.later hb2)
    have Y2 := Lib.hid (X2.out.later hb2)
    have hb2' : Hid (Below B w w2) := hb1.out.trans (hb2.mono (by omega))
    have p10 := Y1.out.at.c10
    have f10 := Y1.out.frozen 10
    have Z1 := Lib.hid (Y1.out.set10 (.slice a' uq c'))
    have Z2 := Lib.hid (Y2.out.far (a := ⟨B, 10, none⟩) (by simp) (.slice a' uq c'))
    have ZO := Lib.hid (ownsRow_setCell_below hown (a := ⟨B, 10, none⟩) (by simp) (.slice a' uq c'))
    have ZB := Lib.hid (hb2'.out.setCell (p := ⟨B, 10, none⟩) (by simp) (.slice a' uq c'))
    have t10 := Z1.out.at.c10
    simp only [Op11.put] at Z1 t10
    clear hown hsh hb2 hb2' X1 X2 hb1 Y1 Y2 s hs1 HK
    go_wp2_with fail
    clear p10 f10 t10
    go_loopw [19] (fun i wr => ∃ j : Nat, j ≤ uq ∧ i = .int .i64 j ∧ Hid (Bop wr B ⟨16, o1, o2, o3, o4, o5, o6, o7, o8, o9, .slice a' uq c'⟩) ∧ Hid (Rowq wr (B + 1) zeroOp) ∧ Hid (wr.ownsRow (B + 2) 9 1 (.slice a' uq c') uq (strCells (L.kept (fun a => L.leq us a level) k j))) ∧ Hid (Below B w wr)) (fun i _ => uq - (intOf i).toNat)
    case atStart => exact ⟨0, by omega, rfl, Z1, Z2, ZO, ZB⟩
    case round =>
      clear Z1 Z2 ZO ZB
      obtain ⟨j, hj, rfl, HBx, HZx, HOx, hbx⟩ := hrel
      by_cases hjn : j < uq
      · have hjI : (j : Int) < (uq : Int) := by omega
        have hj0 : (0 : Int) ≤ (j : Int) := by omega
        obtain ⟨g, rfl, hg⟩ := HSH.out (by omega)
        have s := Lib.hid (HQ.out wr (by rw [HB.out]; exact hbx.out) (j : Int))
        cases hc : L.leq us (j : Int) level with
        | true =>
          have HKy : Hid (L.kept (fun a => L.leq us a level) k (j + 1) = L.kept (fun a => L.leq us a level) k j) := L.kept_yes (by rw [HKq.out]; exact hjn) hc
          rw [hc] at s
          rw [← HKy.out] at HOx
          clear hc HKy
          go_wp2_with fail
          refine s.out.mono ?_
          rintro e w3 ⟨rfl, rfl⟩
          clear s
          go_wp2_with fail
          go_roundw
          case rel => exact ⟨j + 1, by omega, by go_num, HBx, HZx, HOx, hbx⟩
          case measure => simp [intOf]; omega
        | false =>
          have HKn : Hid (L.kept (fun a => L.leq us a level) k (j + 1) = (L.kept (fun a => L.leq us a level) k j).set j []) := L.kept_no (by rw [HKq.out]; exact hjn) hc
          rw [hc] at s
          have hst := (HOx.out.stored j (.string (str []))).1
          rw [strCells_set, ← HKn.out] at hst
          have HO2 := Lib.hid hst
          have c10 := HBx.out.at.c10
          have cj : ∃ v0, wr.cell? ⟨g, j, none⟩ = some v0 := ⟨(strCells (L.kept (fun a => L.leq us a level) k j))[j]'(by rw [strCells_length, L.kept_length, HKq.out]; exact hjn), by rw [HOx.out.cellAt _ (by omega)]; exact List.getElem?_eq_getElem _⟩
          obtain ⟨v0, cj⟩ := cj
          have fj := HOx.out.frozenAt j
          have HB2 := Lib.hid (HBx.out.far (q := ⟨g, j, none⟩) (by simp; omega) (.string (str [])))
          have HZ2 := Lib.hid (HZx.out.far (a := ⟨g, j, none⟩) (by simp; omega) (.string (str [])))
          have hb2 := Lib.hid (hbx.out.setCell (p := ⟨g, j, none⟩) (by simp; omega) (.string (str [])))
          clear hc HKn hst HOx HBx HZx hbx
          go_wp2_with fail
          refine s.out.mono ?_
          rintro e w3 ⟨rfl, rfl⟩
          clear s
          go_wp2_with fail
          go_roundw
          case rel => exact ⟨j + 1, by omega, by go_num, HB2, HZ2, HO2, hb2⟩
          case measure => simp [intOf]; omega
      · obtain rfl : j = uq := by omega
        rw [show L.kept (fun a => L.leq us a level) k j = L.keeps (fun a => L.leq us a level) k by rw [← HKq.out]; exact L.kept_end _ _] at HOx
        have s := Lib.hid (HQ.out wr (by rw [HB.out]; exact hbx.out) o1)
        have HN : Hid (k.length = j) := HKq
        have c1 := HBx.out.at.c1
        cases hc : L.leq us o1 level with
        | true =>
          have HTR : Hid (L.trim (fun a => L.leq us a level) ⟨16, o1, o2, o3, o4, o5, o6, o7, o8, o9, k⟩ = ⟨16, o1, o2, o3, o4, o5, o6, o7, o8, o9, L.keeps (fun a => L.leq us a level) k⟩) := by unfold Hid; rw [HTRg.out, hc]; rfl
          rw [hc] at s
          clear hc HTRg HSH
          go_wp2_with fail
          refine s.out.mono ?_
          rintro e w3 ⟨rfl, rfl⟩
          clear s c1
          obtain ⟨⟨⟨z0, a0⟩, b0⟩, ⟨⟨z1, a1⟩, b1⟩, ⟨⟨z2, a2⟩, b2⟩, ⟨⟨z3, a3⟩, b3⟩, ⟨⟨z4, a4⟩, b4⟩, ⟨⟨z5, a5⟩, b5⟩, ⟨⟨z6, a6⟩, b6⟩, ⟨⟨z7, a7⟩, b7⟩, ⟨⟨z8, a8⟩, b8⟩, ⟨⟨z9, a9⟩, b9⟩, ⟨⟨z10, a10⟩, b10⟩, hq11⟩ := HZx.out.all ⟨16, o1, o2, o3, o4, o5, o6, o7, o8, o9, .slice a' j c'⟩
          have HQ11 := Lib.hid hq11
          have HO11 := Lib.hid (own_opw HOx.out (by omega : B + 1 < B + 2) ⟨16, o1, o2, o3, o4, o5, o6, o7, o8, o9, .slice a' j c'⟩)
          have hb11 := Lib.hid (below_opw hbx.out (by omega : B ≤ B + 1) ⟨16, o1, o2, o3, o4, o5, o6, o7, o8, o9, .slice a' j c'⟩)
          obtain ⟨p0, p1, p2, p3, p4, p5, p6, p7, p8, p9, p10⟩ := HBx.out.at
          clear HZx HOx hbx HBx hq11
          go_wp2_with fail
          refine bodyPost_ret (trim_results _ _ (B + 1) ⟨16, o1, o2, o3, o4, o5, o6, o7, o8, o9, .slice a' j c'⟩ rfl HQ11.out) rfl ?_
          exact ⟨.slice a' j c', by rw [HTR.out], .inr (by rw [HB.out, HTR.out]; exact ownsRow.base (by simpa [L.keeps_length, HN.out] using HO11.out) (by omega)), by rw [HB.out]; exact hb11.out⟩
        | false =>
          have HTR : Hid (L.trim (fun a => L.leq us a level) ⟨16, o1, o2, o3, o4, o5, o6, o7, o8, o9, k⟩ = ⟨16, 0, 0, o3, o4, o5, o6, o7, o8, 0, L.keeps (fun a => L.leq us a level) k⟩) := by unfold Hid; rw [HTRg.out, hc]; rfl
          rw [hc] at s
          clear hc HTRg HSH
          go_wp2_with fail
          refine s.out.mono ?_
          rintro e w3 ⟨rfl, rfl⟩
          clear s c1
          have HB1 := Lib.hid (HBx.out.set1 0)
          have HB2 := Lib.hid (HB1.out.set2 0)
          have HB3 := Lib.hid (HB2.out.set9 0)
          have g1 := HBx.out.at.c1
          have g2 := HB1.out.at.c2
          have g9 := HB2.out.at.c9
          have h1 := HBx.out.frozen 1
          have h2 := HB1.out.frozen 2
          have h9 := HB2.out.frozen 9
          simp only [] at HB1 HB2 HB3 g2 g9
          have HZx := Lib.hid (((HZx.out.far (a := ⟨B, 1, none⟩) (by simp) (.int .i64 0)).far (a := ⟨B, 2, none⟩) (by simp) (.int .i64 0)).far (a := ⟨B, 9, none⟩) (by simp) (.int .i64 0))
          have HOx := Lib.hid (ownsRow_setCell_below (ownsRow_setCell_below (ownsRow_setCell_below HOx.out (a := ⟨B, 1, none⟩) (by simp) (.int .i64 0)) (a := ⟨B, 2, none⟩) (by simp) (.int .i64 0)) (a := ⟨B, 9, none⟩) (by simp) (.int .i64 0))
          have hbx := Lib.hid (((hbx.out.setCell (p := ⟨B, 1, none⟩) (by simp) (.int .i64 0)).setCell (p := ⟨B, 2, none⟩) (by simp) (.int .i64 0)).setCell (p := ⟨B, 9, none⟩) (by simp) (.int .i64 0))
          have HBx := HB3
          clear HB1 HB2 HB3
          obtain ⟨⟨⟨z0, a0⟩, b0⟩, ⟨⟨z1, a1⟩, b1⟩, ⟨⟨z2, a2⟩, b2⟩, ⟨⟨z3, a3⟩, b3⟩, ⟨⟨z4, a4⟩, b4⟩, ⟨⟨z5, a5⟩, b5⟩, ⟨⟨z6, a6⟩, b6⟩, ⟨⟨z7, a7⟩, b7⟩, ⟨⟨z8, a8⟩, b8⟩, ⟨⟨z9, a9⟩, b9⟩, ⟨⟨z10, a10⟩, b10⟩, hq11⟩ := HZx.out.all ⟨16, 0, 0, o3, o4, o5, o6, o7, o8, 0, .slice a' j c'⟩
          have HQ11 := Lib.hid hq11
          have HO11 := Lib.hid (own_opw HOx.out (by omega : B + 1 < B + 2) ⟨16, 0, 0, o3, o4, o5, o6, o7, o8, 0, .slice a' j c'⟩)
          have hb11 := Lib.hid (below_opw hbx.out (by omega : B ≤ B + 1) ⟨16, 0, 0, o3, o4, o5, o6, o7, o8, 0, .slice a' j c'⟩)
          obtain ⟨p0, p1, p2, p3, p4, p5, p6, p7, p8, p9, p10⟩ := HBx.out.at
          clear HZx HOx hbx HBx hq11
          go_wp2_with fail
          refine bodyPost_ret (trim_results _ _ (B + 1) ⟨16, 0, 0, o3, o4, o5, o6, o7, o8, 0, .slice a' j c'⟩ rfl HQ11.out) rfl ?_
          exact ⟨.slice a' j c', by rw [HTR.out], .inr (by rw [HB.out, HTR.out]; exact ownsRow.base (by simpa [L.keeps_length, HN.out] using HO11.out) (by omega)), by rw [HB.out]; exact hb11.out⟩
  · have HT := Lib.hid (L.trim_kept (p := (fun a => L.leq us a level)) h16)
    obtain ⟨o0, o1, o2, o3, o4, o5, o6, o7, o8, o9, k⟩ := o
    simp only [] at h16 hlen
    have d0 : (o0 != 16) = true := by simp [h16]
    generalize hq : k.length = uq at *
    have hb : Below w.heap.size w ((w.alloc (.cells #[.int .i64 o0, .int .i64 o1, .int .i64 o2, .int .i64 o3, .string (str o4), .string (str o5), .string (str o6), .int .i64 o7, .int .i64 o8, .int .i64 o9, .slice ua uq uc] 34)).alloc (.cells #[.int .i64 o0, .int .i64 o1, .int .i64 o2, .int .i64 o3, .string (str o4), .string (str o5), .string (str o6), .int .i64 o7, .int .i64 o8, .int .i64 o9, .slice ua uq uc] 34)) := ((Below.refl _ _).alloc (Nat.le_refl _) _).alloc (by simp) _
    have hr : Bop ((w.alloc (.cells #[.int .i64 o0, .int .i64 o1, .int .i64 o2, .int .i64 o3, .string (str o4), .string (str o5), .string (str o6), .int .i64 o7, .int .i64 o8, .int .i64 o9, .slice ua uq uc] 34)).alloc (.cells #[.int .i64 o0, .int .i64 o1, .int .i64 o2, .int .i64 o3, .string (str o4), .string (str o5), .string (str o6), .int .i64 o7, .int .i64 o8, .int .i64 o9, .slice ua uq uc] 34)) (w.heap.size + 1) ⟨o0, o1, o2, o3, o4, o5, o6, o7, o8, o9, .slice ua uq uc⟩ := by
      have := heap_alloc_new (w.alloc (.cells #[.int .i64 o0, .int .i64 o1, .int .i64 o2, .int .i64 o3, .string (str o4), .string (str o5), .string (str o6), .int .i64 o7, .int .i64 o8, .int .i64 o9, .slice ua uq uc] 34)) (.cells #[.int .i64 o0, .int .i64 o1, .int .i64 o2, .int .i64 o3, .string (str o4), .string (str o5), .string (str o6), .int .i64 o7, .int .i64 o8, .int .i64 o9, .slice ua uq uc] 34)
      rw [World.size_alloc] at this
      exact this
    have HR := Lib.hid hr
    clear HQ HK h16 hq hr
    go_enter Tryd.func31, Tryd.ntmps31
    simp only [Op11.put]
    go_wp2_with fail
    refine bodyPost_ret (trim_results _ _ (w.heap.size + 1) ⟨o0, o1, o2, o3, o4, o5, o6, o7, o8, o9, .slice ua uq uc⟩ rfl HR.out) rfl ?_
    exact ⟨.slice ua uq uc, by rw [HT.out], .inl ⟨rfl, by rw [HT.out]⟩, hb⟩
end Go.Proofs.YtljpfocmnppjgaaDoor
