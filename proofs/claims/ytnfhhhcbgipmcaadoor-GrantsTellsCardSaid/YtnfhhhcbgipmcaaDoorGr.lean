/- Grants as values; what Less, Fits and May return. -/
import Derived.Test.YtnfhhhcbgipmcaaDoorThree
import Derived.Test.YtnfhhhcbgipmcaaDoorCmp
import Derived.Test.YtnfhhhcbgipmcaaDoorMix
import Derived.Test.YtnfhhhcbgipmcaaDoorLat2
import Derived.BigQuiet
import Derived.Deep.QuietTactic
import Derived.Laws.StructEq
namespace Go.Proofs.YtnfhhhcbgipmcaaDoor
open Go Go.RowKit

/-- A grant: its actor, and from where to where. -/
abbrev Gr : Type := Int × Int × Int
def GR : Three Gr := ⟨fun g => .int .i64 g.1, fun g => .int .i64 g.2.1, fun g => .int .i64 g.2.2⟩
abbrev gv (g : Gr) : Value := .agg #[.int .i64 g.1, .int .i64 g.2.1, .int .i64 g.2.2]

/-- '==' of two grants. -/
theorem gr_eql (a b : Gr) (w : World) : (binOp .eql 47 (gv a) (gv b)).run Tryd.prog w = .ok (.bool (a == b)) w := by
  have u3 := Tryd.underlying3
  have a3 := Tryd.isAgg3
  have z3 := Tryd.sizeOf3
  have hS : Tryd.prog.underlying 47 = some (.struct (Tryd.prog.fieldsOf 47)) := by kernel_rfl
  have hp : Tryd.prog.stoodInHeld 47 = false := by kernel_rfl
  unfold gv
  rw [run_eql_struct, show (10000 : Nat) = 9999 + 1 from rfl, run_equalIn_agg w 9999 47 _ _ hS hp]
  simp only [Program.fieldsOf, Tryd.underlying47]
  obtain ⟨a0, a1, a2⟩ := a
  obtain ⟨b0, b1, b2⟩ := b
  go_simp
  by_cases h1 : a0 = b0 <;> by_cases h2 : a1 = b1 <;> by_cases h3 : a2 = b2 <;> simp [h1, h2, h3]
theorem gr_ne (a b : Gr) (w : World) : (binOp .neq 47 (gv a) (gv b)).run Tryd.prog w = .ok (.bool (a != b)) w := by
  have u3 := Tryd.underlying3
  have a3 := Tryd.isAgg3
  have z3 := Tryd.sizeOf3
  have hS : Tryd.prog.underlying 47 = some (.struct (Tryd.prog.fieldsOf 47)) := by kernel_rfl
  have hp : Tryd.prog.stoodInHeld 47 = false := by kernel_rfl
  unfold gv
  rw [run_neq_struct, show (10000 : Nat) = 9999 + 1 from rfl, run_equalIn_agg w 9999 47 _ _ hS hp]
  simp only [Program.fieldsOf, Tryd.underlying47]
  obtain ⟨a0, a1, a2⟩ := a
  obtain ⟨b0, b1, b2⟩ := b
  go_simp
  by_cases h1 : a0 = b0 <;> by_cases h2 : a1 = b1 <;> by_cases h3 : a2 = b2 <;> simp [h1, h2, h3, bne]
theorem gr_guard (op : BinOp) (x y : Operand) (xs ys : Array Value) (w : World) : (eqGuard op 47 x y (.agg xs) (.agg ys)).run Tryd.prog w = .ok () w := run_eqGuard_agg _ _ _ _ _ _ _ (by kernel_rfl)

namespace L
/-- How two grants stand. -/
def gcmp (g h : Gr) : Int := orI [ordI g.1 h.1, ordI g.2.1 h.2.1, ordI g.2.2 h.2.2]
def gless (g h : Gr) : Bool := decide (gcmp g h < 0)
def fits (us : List Nat) (g : Gr) : Bool := leq us g.2.1 g.1 && leq us g.2.2 g.1 && !leq us g.2.1 g.2.2
theorem ordI_cases (a b : Int) : (a < b ∧ ordI a b = -1) ∨ (b < a ∧ ordI a b = 1) ∨ (a = b ∧ ordI a b = 0) := by
  unfold ordI
  by_cases h : a < b
  · exact .inl ⟨h, if_pos h⟩
  · rw [if_neg h]
    by_cases h2 : b < a
    · exact .inr (.inl ⟨h2, if_pos h2⟩)
    · exact .inr (.inr ⟨by omega, if_neg h2⟩)
theorem gless_eq (g h : Gr) : gless g h = if g.1 ≠ h.1 then decide (g.1 < h.1) else if g.2.1 ≠ h.2.1 then decide (g.2.1 < h.2.1) else decide (g.2.2 < h.2.2) := by
  have hz : (-1 : Int) ≠ 0 := by decide
  have ho : (1 : Int) ≠ 0 := by decide
  unfold gless gcmp orI orI orI orI
  rcases ordI_cases g.1 h.1 with ⟨h1, e1⟩ | ⟨h1, e1⟩ | ⟨h1, e1⟩
  · rw [e1, if_neg hz, if_pos (show g.1 ≠ h.1 by omega), decide_eq_true (p := g.1 < h.1) h1]; rfl
  · rw [e1, if_neg ho, if_pos (show g.1 ≠ h.1 by omega), decide_eq_false (p := g.1 < h.1) (by omega)]; rfl
  · rw [e1, if_pos (rfl : (0 : Int) = 0), if_neg (show ¬ g.1 ≠ h.1 by omega)]
    rcases ordI_cases g.2.1 h.2.1 with ⟨h2, e2⟩ | ⟨h2, e2⟩ | ⟨h2, e2⟩
    · rw [e2, if_neg hz, if_pos (show g.2.1 ≠ h.2.1 by omega), decide_eq_true (p := g.2.1 < h.2.1) h2]; rfl
    · rw [e2, if_neg ho, if_pos (show g.2.1 ≠ h.2.1 by omega), decide_eq_false (p := g.2.1 < h.2.1) (by omega)]; rfl
    · rw [e2, if_pos (rfl : (0 : Int) = 0), if_neg (show ¬ g.2.1 ≠ h.2.1 by omega)]
      rcases ordI_cases g.2.2 h.2.2 with ⟨h3, e3⟩ | ⟨h3, e3⟩ | ⟨h3, e3⟩
      · rw [e3, if_neg hz, decide_eq_true (p := g.2.2 < h.2.2) h3]; rfl
      · rw [e3, if_neg ho, decide_eq_false (p := g.2.2 < h.2.2) (by omega)]; rfl
      · rw [e3, if_pos (rfl : (0 : Int) = 0), decide_eq_false (p := g.2.2 < h.2.2) (by omega)]; rfl
end L

/-- A block of three cells. -/
def Bx (w : World) (B : Nat) (t : TypeId) (c0 c1 c2 : Value) : Prop := w.heap[B]? = some (.cells #[c0, c1, c2] t (0, 0))
theorem Bx.lt {w : World} {B : Nat} {t : TypeId} {c0 c1 c2 : Value} (h : Bx w B t c0 c1 c2) : B < w.heap.size := (Array.getElem?_eq_some_iff.1 h).1
theorem Bx.later {w w' : World} {B : Nat} {t : TypeId} {c0 c1 c2 : Value} (h : Bx w B t c0 c1 c2) (hb : Below w.heap.size w w') : Bx w' B t c0 c1 c2 := (hb.block B h.lt).trans h
theorem Bx.cells {w : World} {B : Nat} {t : TypeId} {c0 c1 c2 : Value} (h : Bx w B t c0 c1 c2) : w.cell? ⟨B, 0, none⟩ = some c0 ∧ w.cell? ⟨B, 1, none⟩ = some c1 ∧ w.cell? ⟨B, 2, none⟩ = some c2 :=
  ⟨cell_of_row w B 0 _ _ (0, 0) h, cell_of_row w B 1 _ _ (0, 0) h, cell_of_row w B 2 _ _ (0, 0) h⟩

set_option maxHeartbeats 1000000 in
theorem gcmp_any (g h : Gr) (w : World) : Calls Tryd.prog 67 #[gv g, gv h] w fun e w' => e = .returned (.int .i64 (L.gcmp g h)) ∧ Below w.heap.size w w' := by
  obtain ⟨a0, a1, a2⟩ := g
  obtain ⟨b0, b1, b2⟩ := h
  unfold gv
  go_enter Tryd.func67, Tryd.ntmps67
  go_wp2_with fail
  obtain ⟨w1, hw1⟩ : ∃ w1, (w.alloc (.cells #[.int .i64 a0, .int .i64 a1, .int .i64 a2] 47)).alloc (.cells #[.int .i64 b0, .int .i64 b1, .int .i64 b2] 47) = w1 := ⟨_, rfl⟩
  have hb1 : Below w.heap.size w w1 := by rw [← hw1]; exact ((Below.refl _ _).alloc (Nat.le_refl _) _).alloc (by simp) _
  obtain ⟨B, hB⟩ : ∃ B, w.heap.size = B := ⟨_, rfl⟩
  have x1 : Bx w1 B 47 (.int .i64 a0) (.int .i64 a1) (.int .i64 a2) := by
    unfold Bx
    rw [← hw1, ← hB]
    exact (Below.heap_alloc _ _ _ (by simp)).trans (heap_alloc_new _ _)
  have x2 : Bx w1 (B + 1) 47 (.int .i64 b0) (.int .i64 b1) (.int .i64 b2) := by
    have := heap_alloc_new (w.alloc (.cells #[.int .i64 a0, .int .i64 a1, .int .i64 a2] 47)) (.cells #[.int .i64 b0, .int .i64 b1, .int .i64 b2] 47)
    rw [World.size_alloc, hB, hw1] at this
    exact this
  rw [hw1, hB]
  have HB := Lib.hid hB
  clear hw1 hB
  refine wp_region_mix ext_grow [(0, false), (1, false), (2, false), (3, false), (4, false), (5, false), (6, false), (7, false), (8, false), (9, false), (10, false), (11, false), (12, false), (13, false), (14, false), (15, true), (16, false), (17, false)] (by kernel_rfl) (by kernel_rfl) ?_
  have hb2 : Below w.heap.size w w1.drew := hb1.trans (Below.refl _ _).drew
  have y1 := x1.later (Below.refl _ _).drew
  have y2 := x2.later (Below.refl _ _).drew
  clear x1 x2 hb1
  generalize w1.drew = w2 at *
  have e0 : ∀ x : Later w2, x.1.cell? ⟨B, 0, none⟩ = some (.int .i64 a0) := fun x => (y1.later x.2).cells.1
  have e1 : ∀ x : Later w2, x.1.cell? ⟨B, 1, none⟩ = some (.int .i64 a1) := fun x => (y1.later x.2).cells.2.1
  have e2 : ∀ x : Later w2, x.1.cell? ⟨B, 2, none⟩ = some (.int .i64 a2) := fun x => (y1.later x.2).cells.2.2
  have f0 : ∀ x : Later w2, x.1.cell? ⟨B + 1, 0, none⟩ = some (.int .i64 b0) := fun x => (y2.later x.2).cells.1
  have f1 : ∀ x : Later w2, x.1.cell? ⟨B + 1, 1, none⟩ = some (.int .i64 b1) := fun x => (y2.later x.2).cells.2.1
  have f2 : ∀ x : Later w2, x.1.cell? ⟨B + 1, 2, none⟩ = some (.int .i64 b2) := fun x => (y2.later x.2).cells.2.2
  clear y1 y2
  repeat (refine mix_soft rfl (fun K hK => ?_); go_simp; (first | (refine hK _ ?_; clear hK K) | (apply Exists.intro; refine ⟨fun x => ?_, hK _ ?_⟩; (first | (go_at_call 80; with_reducible exact (ordI_any _ _ _).mono fun e w' ⟨h1, h2⟩ => ⟨h1, ext_of_eq h2⟩)); clear hK K)))
  clear e0 e1 e2 f0 f1 f2
  refine mix_loud rfl (fun K hK => ?_)
  go_simp
  intro x
  refine hK _ _ ?_
  clear hK K
  have hz : Hid (Zs (x.1.alloc (.cells #[.int .i64 (ordI a0 b0), .int .i64 (ordI a1 b1), .int .i64 (ordI a2 b2)] 3)) (.slice (some ⟨x.1.heap.size, 0, none⟩) 3 3) [ordI a0 b0, ordI a1 b1, ordI a2 b2]) := Zs.lit _ 3 rfl (by decide) rfl
  have hb3 : Below w.heap.size w (x.1.alloc (.cells #[.int .i64 (ordI a0 b0), .int .i64 (ordI a1 b1), .int .i64 (ordI a2 b2)] 3)) := (below_next hb2 x.2).alloc (below_next hb2 x.2).size _
  clear hb2
  generalize x.1.alloc (.cells #[.int .i64 (ordI a0 b0), .int .i64 (ordI a1 b1), .int .i64 (ordI a2 b2)] 3) = w3 at *
  generalize x.1.heap.size = A at *
  clear x
  have HO : Hid (∀ x : Later w3, Calls Tryd.prog 79 #[.slice (some ⟨A, 0, none⟩) 3 3] x.1 fun e w' => e = .returned (.int .i64 (orI [ordI a0 b0, ordI a1 b1, ordI a2 b2])) ∧ Ext x.1 w') := fun x => (or_any _ _ x.1 (Sl.below hz.out x.2)).mono fun e w' ⟨h1, h2⟩ => ⟨h1, ext_of_eq h2⟩
  clear hz
  repeat (refine mix_soft rfl (fun K hK => ?_); go_simp; (first | (refine hK _ ?_; clear hK K) | (apply Exists.intro; refine ⟨fun x => ?_, hK _ ?_⟩; (first | (go_at_call 79; with_reducible exact HO.out x)); clear hK K)))
  refine mix_done fun w4 hb4 => ?_
  have hfin := below_next hb3 hb4
  go_wp2_with fail
  go_ret
  exact ⟨rfl, hfin⟩
end Go.Proofs.YtnfhhhcbgipmcaaDoor
