/- The document's example holds: awake returns true. -/
import Derived.Test.YtgipmbphbcnhcaaRwRefUnion
namespace Go.Proofs.Ytgipmbphbcnhcaa
open Go Go.RowKit

theorem rw_eql (a b : Rw) (w : World) : (binOp .eql 29 (.agg #[RW.c0 a, RW.c1 a, RW.c2 a]) (.agg #[RW.c0 b, RW.c1 b, RW.c2 b])).run Try.prog w = .ok (.bool (a == b)) w := by
  have u3 := Try.underlying3
  have a3 := Try.isAgg3
  have z3 := Try.sizeOf3
  have u9 := Try.underlying9
  have a9 := Try.isAgg9
  have z9 := Try.sizeOf9
  have hS : Try.prog.underlying 29 = some (.struct (Try.prog.fieldsOf 29)) := by kernel_rfl
  have hp : Try.prog.stoodInHeld 29 = false := by kernel_rfl
  simp only [RW]
  rw [run_eql_struct, show (10000 : Nat) = 9999 + 1 from rfl, run_equalIn_agg w 9999 29 _ _ hS hp]
  simp only [Program.fieldsOf, Try.underlying29]
  obtain ⟨a0, a1, a2⟩ := a
  obtain ⟨b0, b1, b2⟩ := b
  go_simp
  by_cases h1 : a0 = b0 <;> by_cases h2 : a1 = b1 <;> by_cases h3 : a2 = b2 <;> simp [h1, h2, h3]

def ra0 : Rw := ([97], 0, [])
def ra1 : Rw := ([97], 1, [])
def rb1 : Rw := ([98], 1, [])
def exRows : List (List Rw) := [[ra1, rb1], [ra0]]
theorem ex_lt : S.rlt ra0 ra1 = true ∧ S.rlt ra1 ra0 = false ∧ S.rlt ra0 rb1 = true ∧ S.rlt rb1 ra1 = false := by decide +kernel
theorem ex_sort : S.IsSort exRows.flatten [ra0, ra1, rb1] := by
  have h : S.Sorted ([] ++ [ra1, rb1]) := List.pairwise_pair.2 ex_lt.2.2.2
  have := S.one_right (x := ra0) (V := []) (W := [ra1, rb1]) h (fun v hv => by cases hv) (fun y hy => by
    rcases List.mem_cons.1 hy with rfl | hy
    · exact ex_lt.1
    · rw [List.mem_singleton.1 hy]; exact ex_lt.2.2.1)
  simpa [exRows] using this
theorem ex_front : [ra0, ra1, rb1].take (S.upto 2 [ra0, ra1, rb1].length) = [ra0, ra1] := by decide +kernel

theorem ex_world (w : World) : Vs (((w.alloc (.cells #[.string { data := #[97] }, .int .i64 1, .string { data := #[] }, .string { data := #[98] }, .int .i64 1, .string { data := #[] }] 29)).alloc (.cells #[.string { data := #[97] }, .int .i64 0, .string { data := #[] }] 29)).alloc (.cells #[.slice (some ⟨w.heap.size, 0, none⟩) 2 2, .slice (some ⟨w.heap.size + 1, 0, none⟩) 1 1] 25))
      (.slice (some ⟨w.heap.size + 1 + 1, 0, none⟩) 2 2) exRows
    ∧ Below w.heap.size w (((w.alloc (.cells #[.string { data := #[97] }, .int .i64 1, .string { data := #[] }, .string { data := #[98] }, .int .i64 1, .string { data := #[] }] 29)).alloc (.cells #[.string { data := #[97] }, .int .i64 0, .string { data := #[] }] 29)).alloc (.cells #[.slice (some ⟨w.heap.size, 0, none⟩) 2 2, .slice (some ⟨w.heap.size + 1, 0, none⟩) 1 1] 25)) := by
  have h1 : Rs (w.alloc (.cells #[.string { data := #[97] }, .int .i64 1, .string { data := #[] }, .string { data := #[98] }, .int .i64 1, .string { data := #[] }] 29)) (.slice (some ⟨w.heap.size, 0, none⟩) 2 2) [ra1, rb1] := Sl.lit w 29 3 2 _ (0, 0) rfl (by decide)
  generalize hw1 : w.alloc (.cells #[.string { data := #[97] }, .int .i64 1, .string { data := #[] }, .string { data := #[98] }, .int .i64 1, .string { data := #[] }] 29) = w1 at *
  have hs1 : w1.heap.size = w.heap.size + 1 := by rw [← hw1]; simp
  have hb1 : Below w.heap.size w w1 := by rw [← hw1]; exact (Below.refl _ _).alloc (Nat.le_refl _) _
  have h2 : Rs (w1.alloc (.cells #[.string { data := #[97] }, .int .i64 0, .string { data := #[] }] 29)) (.slice (some ⟨w1.heap.size, 0, none⟩) 1 1) [ra0] := Sl.lit w1 29 3 1 _ (0, 0) rfl (by decide)
  have h3 := Three.Ss.below h1 ((Below.refl _ w1).alloc (Nat.le_refl _) (.cells #[.string { data := #[97] }, .int .i64 0, .string { data := #[] }] 29))
  have hb2 := hb1.alloc hb1.size (.cells #[.string { data := #[97] }, .int .i64 0, .string { data := #[] }] 29)
  have hs2 : (w1.alloc (.cells #[.string { data := #[97] }, .int .i64 0, .string { data := #[] }] 29)).heap.size = w.heap.size + 1 + 1 := by simp [hs1]
  rw [hs1] at h2
  generalize w1.alloc (.cells #[.string { data := #[97] }, .int .i64 0, .string { data := #[] }] 29) = w2 at *
  have h4 := Sl.lit w2 25 1 2 #[.slice (some ⟨w.heap.size, 0, none⟩) 2 2, .slice (some ⟨w.heap.size + 1, 0, none⟩) 1 1] (0, 0) rfl (by decide)
  rw [hs2] at h4
  have hbb : Below w2.heap.size w2 (w2.alloc (.cells #[.slice (some ⟨w.heap.size, 0, none⟩) 2 2, .slice (some ⟨w.heap.size + 1, 0, none⟩) 1 1] 25)) := (Below.refl _ _).alloc (Nat.le_refl _) _
  refine ⟨⟨_, h4, fun i a b => ?_⟩, hb2.alloc hb2.size _⟩
  match i, b with
  | 0, _ => exact Three.Ss.below h3 hbb
  | 1, _ => exact Three.Ss.below h2 hbb

set_option maxRecDepth 4000 in
set_option maxHeartbeats 4000000 in
theorem awake_any (w : World) :
    Calls Try.prog 6 #[] w fun e w' => e = .returned (.bool true) ∧ Below w.heap.size w w' := by
  obtain ⟨hv, hb⟩ := ex_world w
  have HU := Lib.hid (union_any _ exRows 2 _ hv (by decide))
  have HB := Lib.hid hb
  clear hv hb
  go_enter Try.func6, Try.ntmps6
  go_wp2_with fail
  refine HU.out.mono ?_
  rintro e w1 ⟨v1, C, rfl, hC, hr, hbel⟩
  obtain rfl := hC.eq ex_sort
  rw [ex_front] at hr
  have hb1 := Lib.hid (below_next HB.out hbel)
  have HR := Lib.hid hr
  clear HU HB hC hr hbel
  obtain ⟨ao, cap, rfl, -⟩ := HR.out.shape
  obtain ⟨b, off, rfl, h0⟩ := HR.out.at (k := 0) (by decide)
  obtain ⟨b', off', e, h1⟩ := HR.out.at (k := 1) (by decide)
  obtain ⟨rfl, rfl⟩ : b = b' ∧ off = off' := by simpa using e
  have H0 := Lib.hid h0
  have H1 := Lib.hid h1
  clear e h0 h1 HR
  have eq0 : ∀ W, (binOp .eql 29 (.agg #[.string { data := #[97] }, .int .i64 0, .string { data := #[] }]) (.agg #[.string { data := #[97] }, .int .i64 0, .string { data := #[] }])).run Try.prog W = .ok (.bool true) W := fun W => rw_eql ra0 ra0 W
  have eq1 : ∀ W, (binOp .eql 29 (.agg #[.string { data := #[97] }, .int .i64 1, .string { data := #[] }]) (.agg #[.string { data := #[97] }, .int .i64 1, .string { data := #[] }])).run Try.prog W = .ok (.bool true) W := fun W => rw_eql ra1 ra1 W
  have eg := fun x y xs ys W => rw_guard .eql x y xs ys W
  have L1 : Hid (∀ W, Calls Try.prog 9 #[(.agg #[.string { data := #[97] }, .int .i64 0, .string { data := #[] }]), (.agg #[.string { data := #[97] }, .int .i64 1, .string { data := #[] }])] W fun e w' => e = .returned (.bool true) ∧ Ext W w') := fun W => by
    have := rlt_any ra0 ra1 W
    rw [ex_lt.1] at this
    exact this
  have L2 : Hid (∀ W, Calls Try.prog 9 #[(.agg #[.string { data := #[97] }, .int .i64 1, .string { data := #[] }]), (.agg #[.string { data := #[97] }, .int .i64 0, .string { data := #[] }])] W fun e w' => e = .returned (.bool false) ∧ Ext W w') := fun W => by
    have := rlt_any ra1 ra0 W
    rw [ex_lt.2.1] at this
    exact this
  go_wp2_with fail
  refine wp_region_mix ext_grow [(0, false), (1, false), (2, false), (3, false), (4, false), (5, false), (6, false), (7, false), (8, false), (9, false), (10, false), (11, false), (12, false), (13, false), (14, false), (15, false), (16, false), (17, false), (18, false), (19, false), (20, false), (21, false), (22, false), (23, false), (24, false), (25, false), (26, false), (27, false), (28, false), (29, false), (30, false), (31, false), (32, false), (33, false), (34, false), (35, false), (36, false)] (by kernel_rfl) (by kernel_rfl) ?_
  have hb2 : Hid (Below w.heap.size w w1.drew) := hb1.out.drew
  have G0 : ∀ W, Below w1.drew.heap.size w1.drew W → W.cell? ⟨b, off, none⟩ = some (.string { data := #[97] }) ∧ W.cell? ⟨b, off + 1, none⟩ = some (.int .i64 0) ∧ W.cell? ⟨b, off + 2, none⟩ = some (.string { data := #[] }) := fun W hW => by
    have := H0.out W (below_next (below_drewN w1 1) hW)
    exact this
  have G1 : ∀ W, Below w1.drew.heap.size w1.drew W → W.cell? ⟨b, off + 3, none⟩ = some (.string { data := #[97] }) ∧ W.cell? ⟨b, off + 3 + 1, none⟩ = some (.int .i64 1) ∧ W.cell? ⟨b, off + 3 + 2, none⟩ = some (.string { data := #[] }) := fun W hW => by
    have := H1.out W (below_next (below_drewN w1 1) hW)
    exact this
  clear H0 H1 hb1
  generalize w1.drew = w0 at *
  have p0 : ∀ x : Later w0, x.1.cell? ⟨b, off, none⟩ = some (.string { data := #[97] }) := fun x => (G0 x.1 x.2).1
  have p1 : ∀ x : Later w0, x.1.cell? ⟨b, off + 1, none⟩ = some (.int .i64 0) := fun x => (G0 x.1 x.2).2.1
  have p2 : ∀ x : Later w0, x.1.cell? ⟨b, off + 2, none⟩ = some (.string { data := #[] }) := fun x => (G0 x.1 x.2).2.2
  have q0 : ∀ x : Later w0, x.1.cell? ⟨b, off + 3, none⟩ = some (.string { data := #[97] }) := fun x => (G1 x.1 x.2).1
  have q1 : ∀ x : Later w0, x.1.cell? ⟨b, off + 3 + 1, none⟩ = some (.int .i64 1) := fun x => (G1 x.1 x.2).2.1
  have q2 : ∀ x : Later w0, x.1.cell? ⟨b, off + 3 + 2, none⟩ = some (.string { data := #[] }) := fun x => (G1 x.1 x.2).2.2
  clear G0 G1
  repeat (refine mix_soft rfl (fun K hK => ?_); go_simp; (first | (refine hK _ ?_; clear hK K) | (apply Exists.intro; refine ⟨fun x => ?_, hK _ ?_⟩; (first | (go_at_call 9; (first | with_reducible exact L1.out _ | with_reducible exact L2.out _))); clear hK K)))
  refine mix_done fun w4 hb5 => ?_
  have hb6 := Lib.hid (below_next hb2.out hb5)
  clear p0 p1 p2 q0 q1 q2 eq0 eq1 eg hb5 hb2
  go_wp2_with fail
  go_ret
  exact ⟨rfl, hb6.out⟩
end Go.Proofs.Ytgipmbphbcnhcaa
