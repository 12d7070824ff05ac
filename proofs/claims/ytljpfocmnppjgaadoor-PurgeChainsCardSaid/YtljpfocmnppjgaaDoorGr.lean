/- Grants as values; what Less, Fits and May return. -/
import Derived.Test.YtljpfocmnppjgaaDoorThree
import Derived.Test.YtljpfocmnppjgaaDoorCmp
import Derived.Test.YtljpfocmnppjgaaDoorMix
import Derived.Test.YtljpfocmnppjgaaDoorLat2
import Derived.BigQuiet
import Derived.Deep.QuietTactic
import Derived.Laws.StructEq
namespace Go.Proofs.YtljpfocmnppjgaaDoor
open Go Go.RowKit

/-- A grant: its actor, and from where to where. -/
abbrev Gr : Type := Int × Int × Int
def GR : Three Gr := ⟨fun g => .int .i64 g.1, fun g => .int .i64 g.2.1, fun g => .int .i64 g.2.2⟩
abbrev gv (g : Gr) : Value := .agg #[.int .i64 g.1, .int .i64 g.2.1, .int .i64 g.2.2]

/-- '==' of two grants. -/
theorem gr_eql (a b : Gr) (w : World) : (binOp .eql 50 (gv a) (gv b)).run Tryd.prog w = .ok (.bool (a == b)) w := by
  have u3 := Tryd.underlying3
  have a3 := Tryd.isAgg3
  have z3 := Tryd.sizeOf3
  have hS : Tryd.prog.underlying 50 = some (.struct (Tryd.prog.fieldsOf 50)) := by kernel_rfl
  have hp : Tryd.prog.stoodInHeld 50 = false := by kernel_rfl
  unfold gv
  rw [run_eql_struct, show (10000 : Nat) = 9999 + 1 from rfl, run_equalIn_agg w 9999 50 _ _ hS hp]
  simp only [Program.fieldsOf, Tryd.underlying50]
  obtain ⟨a0, a1, a2⟩ := a
  obtain ⟨b0, b1, b2⟩ := b
  go_simp
  by_cases h1 : a0 = b0 <;> by_cases h2 : a1 = b1 <;> by_cases h3 : a2 = b2 <;> simp [h1, h2, h3]
theorem gr_ne (a b : Gr) (w : World) : (binOp .neq 50 (gv a) (gv b)).run Tryd.prog w = .ok (.bool (a != b)) w := by
  have u3 := Tryd.underlying3
  have a3 := Tryd.isAgg3
  have z3 := Tryd.sizeOf3
  have hS : Tryd.prog.underlying 50 = some (.struct (Tryd.prog.fieldsOf 50)) := by kernel_rfl
  have hp : Tryd.prog.stoodInHeld 50 = false := by kernel_rfl
  unfold gv
  rw [run_neq_struct, show (10000 : Nat) = 9999 + 1 from rfl, run_equalIn_agg w 9999 50 _ _ hS hp]
  simp only [Program.fieldsOf, Tryd.underlying50]
  obtain ⟨a0, a1, a2⟩ := a
  obtain ⟨b0, b1, b2⟩ := b
  go_simp
  by_cases h1 : a0 = b0 <;> by_cases h2 : a1 = b1 <;> by_cases h3 : a2 = b2 <;> simp [h1, h2, h3, bne]
theorem gr_guard (op : BinOp) (x y : Operand) (xs ys : Array Value) (w : World) : (eqGuard op 50 x y (.agg xs) (.agg ys)).run Tryd.prog w = .ok () w := run_eqGuard_agg _ _ _ _ _ _ _ (by kernel_rfl)

namespace L
/-- How two grants stand. -/
def gcmp (g h : Gr) : Int := orI [ordI g.1 h.1, ordI g.2.1 h.2.1, ordI g.2.2 h.2.2]
def gless (g h : Gr) : Bool := decide (gcmp g h < 0)
def fits (us : List Nat) (g : Gr) : Bool := leq us g.2.1 g.1 && leq us g.2.2 g.1 && !leq us g.2.1 g.2.2
theorem ordI_cases (a b : Int) : (a < b ∧ ordI a b = -1) ∨ (b < a ∧ ordI a b = 1) ∨ (a = b ∧ ordI a b = 0) := by
  unfold ordI
  by_cases h : a < b
  · exact .inl ⟨h, if_pos h⟩
  · rw [if_neg h]
    by_cases h2 : b < a
    · exact .inr (.inl ⟨h2, if_pos h2⟩)
    · exact .inr (.inr ⟨by omega, if_neg h2⟩)
theorem gless_eq (g h : Gr) : gless g h = if g.1 ≠ h.1 then decide (g.1 < h.1) else if g.2.1 ≠ h.2.1 then decide (g.2.1 < h.2.1) else decide (g.2.2 < h.2.2) := by
  have hz : (-1 : Int) ≠ 0 := by decide
  have ho : (1 : Int) ≠ 0 := by decide
  unfold gless gcmp orI orI orI orI
  rcases ordI_cases g.1 h.1 with ⟨h1, e1⟩ | ⟨h1, e1⟩ | ⟨h1, e1⟩
  · rw [e1, if_neg hz, if_pos (show g.1 ≠ h.1 by omega), decide_eq_true (p := g.1 < h.1) h1]; rfl
  · rw [e1, if_neg ho, if_pos (show g.1 ≠ h.1 by omega), decide_eq_false (p := g.1 < h.1) (by omega)]; rfl
  · rw [e1, if_pos (rfl : (0 : Int) = 0), if_neg (show ¬ g.1 ≠ h.1 by omega)]
    rcases ordI_cases g.2.1 h.2.1 with ⟨h2, e2⟩ | ⟨h2, e2⟩ | ⟨h2, e2⟩
    · rw [e2, if_neg hz, if_pos (show g.2.1 ≠ h.2.1 by omega), decide_eq_true (p := g.2.1 < h.2.1) h2]; rfl
    · rw [e2, if_neg ho, if_pos (show g.2.1 ≠ h.2.1 by omega), decide_eq_false (p := g.2.1 < h.2.1) (by omega)]; rfl
    · rw [e2, if_pos (rfl : (0 : Int) = 0), if_neg (show ¬ g.2.1 ≠ h.2.1 by omega)]
      rcases ordI_cases g.2.2 h.2.2 with ⟨h3, e3⟩ | ⟨h3, e3⟩ | ⟨h3, e3⟩
      · rw [e3, if_neg hz, decide_eq_true (p := g.2.2 < h.2.2) h3]; rfl
      · rw [e3, if_neg ho, decide_eq_false (p := g.2.2 < h.2.2) (by omega)]; rfl
      · rw [e3, if_pos (rfl : (0 : Int) = 0), decide_eq_false (p := g.2.2 < h.2.2) (by omega)]; rfl
end L

/-- A block of three cells. -/
def Bx (w : World) (B : Nat) (t : TypeId) (c0 c1 c2 : Value) : Prop := w.heap[B]? = some (.cells #[c0, c1, c2] t (0, 0))
theorem Bx.lt {w : World} {B : Nat} {t : TypeId} {c0 c1 c2 : Value} (h : Bx w B t c0 c1 c2) : B < w.heap.size := (Array.getElem?_eq_some_iff.1 h).1
theorem Bx.later {w w' : World} {B : Nat} {t : TypeId} {c0 c1 c2 : Value} (h : Bx w B t c0 c1 c2) (hb : Below w.heap.size w w') : Bx w' B t c0 c1 c2 := (hb.block B h.lt).trans h
theorem Bx.cells {w : World} {B : Nat} {t : TypeId} {c0 c1 c2 : Value} (h : Bx w B t c0 c1 c2) : w.cell? ⟨B, 0, none⟩ = some c0 ∧ w.cell? ⟨B, 1, none⟩ = some c1 ∧ w.cell? ⟨B, 2, none⟩ = some c2 :=
  ⟨cell_of_row w B 0 _ _ (0, 0) h, cell_of_row w B 1 _ _ (0, 0) h, cell_of_row w B 2 _ _ (0, 0) h⟩

end Go.Proofs.YtljpfocmnppjgaaDoor
