/- What merge.compare, Less and the reference's Less return. -/
import Derived.Test.YtgipmbphbcnhcaaSortPlain
import Derived.Test.YtgipmbphbcnhcaaMix
namespace Go.Proofs.Ytgipmbphbcnhcaa
open Go Go.RowKit

abbrev rv (r : Rw) : Value := .agg #[.string (str r.1), .int .i64 r.2.1, .string (str r.2.2)]
/-- A block of three cells. -/
def Bx (w : World) (B : Nat) (t : TypeId) (c0 c1 c2 : Value) : Prop := w.heap[B]? = some (.cells #[c0, c1, c2] t (0, 0))
theorem Bx.lt {w : World} {B : Nat} {t : TypeId} {c0 c1 c2 : Value} (h : Bx w B t c0 c1 c2) : B < w.heap.size := (Array.getElem?_eq_some_iff.1 h).1
theorem Bx.later {w w' : World} {B : Nat} {t : TypeId} {c0 c1 c2 : Value} (h : Bx w B t c0 c1 c2) (hb : Below w.heap.size w w') : Bx w' B t c0 c1 c2 := (hb.block B h.lt).trans h
theorem Bx.cells {w : World} {B : Nat} {t : TypeId} {c0 c1 c2 : Value} (h : Bx w B t c0 c1 c2) : w.cell? ⟨B, 0, none⟩ = some c0 ∧ w.cell? ⟨B, 1, none⟩ = some c1 ∧ w.cell? ⟨B, 2, none⟩ = some c2 :=
  ⟨cell_of_row w B 0 _ _ (0, 0) h, cell_of_row w B 1 _ _ (0, 0) h, cell_of_row w B 2 _ _ (0, 0) h⟩

set_option maxHeartbeats 1000000 in
theorem rcmp_any (g h : Rw) (w : World) : Calls Try.prog 15 #[rv g, rv h] w fun e w' => e = .returned (.int .i64 (S.rcmp g h)) ∧ Below w.heap.size w w' := by
  obtain ⟨a0, a1, a2⟩ := g
  obtain ⟨b0, b1, b2⟩ := h
  unfold rv
  go_enter Try.func15, Try.ntmps15
  go_wp2_with fail
  obtain ⟨w1, hw1⟩ : ∃ w1, (w.alloc (.cells #[.string (str a0), .int .i64 a1, .string (str a2)] 29)).alloc (.cells #[.string (str b0), .int .i64 b1, .string (str b2)] 29) = w1 := ⟨_, rfl⟩
  have hb1 : Below w.heap.size w w1 := by rw [← hw1]; exact ((Below.refl _ _).alloc (Nat.le_refl _) _).alloc (by simp) _
  obtain ⟨B, hB⟩ : ∃ B, w.heap.size = B := ⟨_, rfl⟩
  have x1 : Bx w1 B 29 (.string (str a0)) (.int .i64 a1) (.string (str a2)) := by
    unfold Bx
    rw [← hw1, ← hB]
    exact (Below.heap_alloc _ _ _ (by simp)).trans (heap_alloc_new _ _)
  have x2 : Bx w1 (B + 1) 29 (.string (str b0)) (.int .i64 b1) (.string (str b2)) := by
    have := heap_alloc_new (w.alloc (.cells #[.string (str a0), .int .i64 a1, .string (str a2)] 29)) (.cells #[.string (str b0), .int .i64 b1, .string (str b2)] 29)
    rw [World.size_alloc, hB, hw1] at this
    exact this
  rw [hw1, hB]
  have HB := Lib.hid hB
  clear hw1 hB
  refine wp_region_mix ext_grow [(0, false), (1, false), (2, false), (3, false), (4, false), (5, false), (6, false), (7, false), (8, false), (9, false), (10, true), (11, false), (12, false)] (by kernel_rfl) (by kernel_rfl) ?_
  have hb2 : Below w.heap.size w w1.drew := hb1.trans (Below.refl _ _).drew
  have y1 := x1.later (Below.refl _ _).drew
  have y2 := x2.later (Below.refl _ _).drew
  clear x1 x2 hb1
  generalize w1.drew = w2 at *
  have e0 : ∀ x : Later w2, x.1.cell? ⟨B, 0, none⟩ = some (.string (str a0)) := fun x => (y1.later x.2).cells.1
  have e1 : ∀ x : Later w2, x.1.cell? ⟨B, 1, none⟩ = some (.int .i64 a1) := fun x => (y1.later x.2).cells.2.1
  have f0 : ∀ x : Later w2, x.1.cell? ⟨B + 1, 0, none⟩ = some (.string (str b0)) := fun x => (y2.later x.2).cells.1
  have f1 : ∀ x : Later w2, x.1.cell? ⟨B + 1, 1, none⟩ = some (.int .i64 b1) := fun x => (y2.later x.2).cells.2.1
  clear y1 y2
  repeat (refine mix_soft rfl (fun K hK => ?_); go_simp; (first | (refine hK _ ?_; clear hK K) | (apply Exists.intro; refine ⟨fun x => ?_, hK _ ?_⟩; (first | (go_at_call 19; with_reducible exact (ordS_any _ _ _).mono fun e w' ⟨h1, h2⟩ => ⟨h1, ext_of_eq h2⟩) | (go_at_call 20; with_reducible exact (ordI_any _ _ _).mono fun e w' ⟨h1, h2⟩ => ⟨h1, ext_of_eq h2⟩)); clear hK K)))
  clear e0 e1 f0 f1
  refine mix_loud rfl (fun K hK => ?_)
  go_simp
  intro x
  refine hK _ _ ?_
  clear hK K
  have hz : Hid (Zs (x.1.alloc (.cells #[.int .i64 (ordS a0 b0), .int .i64 (ordI a1 b1)] 3)) (.slice (some ⟨x.1.heap.size, 0, none⟩) 2 2) [ordS a0 b0, ordI a1 b1]) := Zs.lit _ 2 rfl (by decide) rfl
  have hb3 : Below w.heap.size w (x.1.alloc (.cells #[.int .i64 (ordS a0 b0), .int .i64 (ordI a1 b1)] 3)) := (below_next hb2 x.2).alloc (below_next hb2 x.2).size _
  clear hb2
  generalize x.1.alloc (.cells #[.int .i64 (ordS a0 b0), .int .i64 (ordI a1 b1)] 3) = w3 at *
  generalize x.1.heap.size = A at *
  clear x
  have HO : Hid (∀ x : Later w3, Calls Try.prog 18 #[.slice (some ⟨A, 0, none⟩) 2 2] x.1 fun e w' => e = .returned (.int .i64 (orI [ordS a0 b0, ordI a1 b1])) ∧ Ext x.1 w') := fun x => (or_any _ _ x.1 (Sl.below hz.out x.2)).mono fun e w' ⟨h1, h2⟩ => ⟨h1, ext_of_eq h2⟩
  clear hz
  repeat (refine mix_soft rfl (fun K hK => ?_); go_simp; (first | (refine hK _ ?_; clear hK K) | (apply Exists.intro; refine ⟨fun x => ?_, hK _ ?_⟩; (first | (go_at_call 18; with_reducible exact HO.out x)); clear hK K)))
  refine mix_done fun w4 hb4 => ?_
  have hfin := below_next hb3 hb4
  go_wp2_with fail
  go_ret
  exact ⟨rfl, hfin⟩

set_option maxHeartbeats 1000000 in
theorem rlt_any (g h : Rw) (w : World) : Calls Try.prog 9 #[rv g, rv h] w fun e w' => e = .returned (.bool (S.rlt g h)) ∧ Below w.heap.size w w' := by
  have HC := Lib.hid (fun (W : World) => rcmp_any g h W)
  have hd : S.rlt g h = decide (S.rcmp g h < 0) := rfl
  rw [hd]
  clear hd
  obtain ⟨a0, a1, a2⟩ := g
  obtain ⟨b0, b1, b2⟩ := h
  generalize S.rcmp (a0, a1, a2) (b0, b1, b2) = r at *
  go_enter Try.func9, Try.ntmps9
  go_wp2_with fail
  refine (HC.out _).mono ?_
  rintro e w2 ⟨rfl, hb⟩
  have hb1 := (((Below.refl w.heap.size w).alloc (Nat.le_refl _) (.cells #[.string (str a0), .int .i64 a1, .string (str a2)] 29)).alloc (by simp) (.cells #[.string (str b0), .int .i64 b1, .string (str b2)] 29))
  have hfin := below_next hb1 hb
  clear hb1 hb
  go_wp2_with fail
  go_ret
  exact ⟨rfl, hfin⟩
end Go.Proofs.Ytgipmbphbcnhcaa
