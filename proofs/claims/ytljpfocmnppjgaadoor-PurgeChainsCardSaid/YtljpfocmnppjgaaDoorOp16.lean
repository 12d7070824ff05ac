/- The document's example holds: awake returns true. -/
import Derived.Test.YtljpfocmnppjgaaDoorOp15
import Derived.Test.YtljpfocmnppjgaaDoorOp12
namespace Go.Proofs.YtljpfocmnppjgaaDoor
open Go Go.RowKit

def exNs : List (List UInt8) := [[108, 111, 119], [104, 105, 103, 104]]
def exUs : List Nat := [3, 2]
def exQs : List Int := [40, 40]
def exGs : List Gr := [(1, 1, 0)]
def exOp1 : Opr := ⟨7, 1, 1, 0, [], [], [], 0, 0, 0, []⟩
def exOp2 : Opr := ⟨15, 1, 1, 0, [], [], [], 1, 0, 0, []⟩
def exL : List Opr := [exOp1, exOp2]
theorem ex_down : L.down exUs 0 = 1 := by decide +kernel
theorem ex_sets : L.sets exUs exGs (L.down exUs 0) exL = [3, 3] := by decide +kernel
theorem ex_purge : (L.purges exUs exGs (L.down exUs 0) exL).length = 2 := by decide +kernel
theorem ex_purge1 : (L.purges exUs exGs (L.down exUs 0) (exL.take 1)).length = 0 := by decide +kernel
theorem ex_flows : L.flows exGs exOp2 1 = true ∧ L.flows exGs exOp2 2 = false ∧ L.flows exGs exOp1 3 = false := by decide +kernel
theorem ex_u64 : U64s exUs := fun x hx => by
  simp [exUs] at hx
  omega
theorem ex_few : Few exL := fun o ho => by
  simp [exL] at ho
  rcases ho with rfl | rfl <;> decide

theorem two_results (tmps : Array Value) (w : World) (b : Nat) (vn vu vq vg : Value) (hp : tmps.getD 0 undef = .pointer (some ⟨b, 0, none⟩)) (hc : Cb w b vn vu vq vg) :
    (results Tryd.f19 tmps).run Tryd.prog w = .ok (cfv vn vu vq vg) w := by
  obtain ⟨p0, p1, p2, p3⟩ := hc.cell
  rw [results_cell rfl, hp]
  go_simp
set_option maxRecDepth 4000 in
set_option maxHeartbeats 2000000 in
theorem two_any (w : World) : Calls Tryd.prog 19 #[] w fun e w' => ∃ vn vu vq vg, e = .returned (cfv vn vu vq vg) ∧ Cf w' vn vu vq vg exNs exUs exQs exGs ∧ Below w.heap.size w w' := by
  obtain ⟨w1, hw1⟩ : ∃ w1, w.alloc (.cells #[.slice (some ⟨w.heap.size + 1, 0, none⟩) 2 2, .slice (some ⟨w.heap.size + 1 + 1, 0, none⟩) 2 2, .slice (some ⟨w.heap.size + 1 + 1 + 1, 0, none⟩) 2 2, .slice (some ⟨w.heap.size + 1 + 1 + 1 + 1, 0, none⟩) 1 1] 27) = w1 := ⟨_, rfl⟩
  have hs1 : w1.heap.size = w.heap.size + 1 := by rw [← hw1]; simp
  have hb1 : Below w.heap.size w w1 := by rw [← hw1]; exact (Below.refl _ _).alloc (Nat.le_refl _) _
  have hc1 : Cb w1 w.heap.size (.slice (some ⟨w.heap.size + 1, 0, none⟩) 2 2) (.slice (some ⟨w.heap.size + 1 + 1, 0, none⟩) 2 2) (.slice (some ⟨w.heap.size + 1 + 1 + 1, 0, none⟩) 2 2) (.slice (some ⟨w.heap.size + 1 + 1 + 1 + 1, 0, none⟩) 1 1) := by rw [← hw1]; exact Cb.new _ _ _ _ _
  obtain ⟨w2, hw2⟩ : ∃ w2, w1.alloc (.cells #[.string { data := #[108, 111, 119] }, .string { data := #[104, 105, 103, 104] }] 9) = w2 := ⟨_, rfl⟩
  have hk2 : Ks w2 (.slice (some ⟨w1.heap.size, 0, none⟩) 2 2) exNs := by rw [← hw2]; exact Sl.lit w1 9 1 2 _ (0, 0) rfl (by decide)
  have hb2 : Below w1.heap.size w1 w2 := by rw [← hw2]; exact (Below.refl _ _).alloc (Nat.le_refl _) _
  have hs2 : w2.heap.size = w.heap.size + 1 + 1 := by rw [← hw2]; simp [hs1]
  obtain ⟨w3, hw3⟩ : ∃ w3, w2.alloc (.cells #[.int .u64 3, .int .u64 2] 35) = w3 := ⟨_, rfl⟩
  have hk3 : Us w3 (.slice (some ⟨w2.heap.size, 0, none⟩) 2 2) exUs := by rw [← hw3]; exact Sl.lit w2 35 1 2 _ (0, 0) rfl (by decide)
  have hb3 : Below w2.heap.size w2 w3 := by rw [← hw3]; exact (Below.refl _ _).alloc (Nat.le_refl _) _
  have hs3 : w3.heap.size = w.heap.size + 1 + 1 + 1 := by rw [← hw3]; simp [hs2]
  obtain ⟨w4, hw4⟩ : ∃ w4, w3.alloc (.cells #[.int .i64 40, .int .i64 40] 3) = w4 := ⟨_, rfl⟩
  have hk4 : Zs w4 (.slice (some ⟨w3.heap.size, 0, none⟩) 2 2) exQs := by rw [← hw4]; exact Sl.lit w3 3 1 2 _ (0, 0) rfl (by decide)
  have hb4 : Below w3.heap.size w3 w4 := by rw [← hw4]; exact (Below.refl _ _).alloc (Nat.le_refl _) _
  have hs4 : w4.heap.size = w.heap.size + 1 + 1 + 1 + 1 := by rw [← hw4]; simp [hs3]
  obtain ⟨w5, hw5⟩ : ∃ w5, w4.alloc (.cells #[.int .i64 1, .int .i64 1, .int .i64 0] 50) = w5 := ⟨_, rfl⟩
  have hk5 : Gs w5 (.slice (some ⟨w4.heap.size, 0, none⟩) 1 1) exGs := by rw [← hw5]; exact Sl.lit w4 50 3 1 _ (0, 0) rfl (by decide)
  have hb5 : Below w4.heap.size w4 w5 := by rw [← hw5]; exact (Below.refl _ _).alloc (Nat.le_refl _) _
  have e35 := below_next hb4 hb5
  have e25 := below_next hb3 e35
  have e15 := below_next hb2 e25
  rw [hs1] at hk2
  rw [hs2] at hk3
  rw [hs3] at hk4
  rw [hs4] at hk5
  have HCF : Hid (Cf w5 (.slice (some ⟨w.heap.size + 1, 0, none⟩) 2 2) (.slice (some ⟨w.heap.size + 1 + 1, 0, none⟩) 2 2) (.slice (some ⟨w.heap.size + 1 + 1 + 1, 0, none⟩) 2 2) (.slice (some ⟨w.heap.size + 1 + 1 + 1 + 1, 0, none⟩) 1 1) exNs exUs exQs exGs) :=
    ⟨hk2.below e25, hk3.below e35, ex_u64, Sl.below hk4 hb5, hk5⟩
  have HCB := Lib.hid (hc1.later e15)
  have HBF := Lib.hid (below_next hb1 e15)
  have HWF : Hid ((((w.alloc (.cells #[.slice (some ⟨w.heap.size + 1, 0, none⟩) 2 2, .slice (some ⟨w.heap.size + 1 + 1, 0, none⟩) 2 2, .slice (some ⟨w.heap.size + 1 + 1 + 1, 0, none⟩) 2 2, .slice (some ⟨w.heap.size + 1 + 1 + 1 + 1, 0, none⟩) 1 1] 27)).alloc (.cells #[.string { data := #[108, 111, 119] }, .string { data := #[104, 105, 103, 104] }] 9)).alloc (.cells #[.int .u64 3, .int .u64 2] 35)).alloc (.cells #[.int .i64 40, .int .i64 40] 3) = w4) := by unfold Hid; rw [hw1, hw2, hw3, hw4]
  have HW5 := Lib.hid hw5
  clear hw1 hw2 hw3 hw4 hw5 hs1 hs2 hs3 hs4 hk2 hk3 hk4 hk5 hb1 hb2 hb3 hb4 hb5 e35 e25 e15 hc1
  go_enter Tryd.func19, Tryd.ntmps19
  go_wp2_with fail
  rw [HWF.out, HW5.out]
  refine bodyPost_ret (two_results _ _ w.heap.size _ _ _ _ rfl HCB.out) rfl ?_
  exact ⟨_, _, _, _, rfl, HCF.out, HBF.out⟩

theorem Os.take {w : World} {ao : Option Addr} {n cap : Nat} {l : List Opr} (h : Os w (.slice ao n cap) l) (hn : l.length = n) (k : Nat) (hk : k ≤ n) : ∃ v', Os w v' (l.take k) ∧ ∀ W, (Instr.slice 28 (.slice ao n cap) none (some (.int .i64 k)) none).run Tryd.prog W = .ok v' W := by
  obtain ⟨us, h0, h1, h2⟩ := h
  rw [hn] at h1
  obtain ⟨v', h3, h4⟩ := run_take (P := Tryd.prog) (t := 28) Tryd.underlying28 infoOp h1 .i64 k hk
  rw [opCells_take, List.take_zipWith] at h3
  refine ⟨v', ⟨us.take k, by rw [List.length_take, List.length_take, h0], ?_, fun i a b => ?_⟩, h4⟩
  · rw [List.length_take, hn, Nat.min_eq_left hk]; exact h3
  · rw [List.getElem_take, List.getElem_take]
    exact h2 i (by rw [List.length_take] at a; omega) (by rw [List.length_take] at b; omega)

set_option maxRecDepth 4000 in
set_option maxHeartbeats 8000000 in
theorem awake_any (w : World) (ht : DTab w) :
    Calls Tryd.prog 6 #[] w fun e w' => e = .returned (.bool true) ∧ Below w.heap.size w w' := by
  obtain ⟨w1, hw1⟩ : ∃ w1, w.alloc (.cells #[.int .i64 7, .int .i64 1, .int .i64 1, .int .i64 0, .string { data := #[] }, .string { data := #[] }, .string { data := #[] }, .int .i64 0, .int .i64 0, .int .i64 0, .slice none 0 0, .int .i64 15, .int .i64 1, .int .i64 1, .int .i64 0, .string { data := #[] }, .string { data := #[] }, .string { data := #[] }, .int .i64 1, .int .i64 0, .int .i64 0, .slice none 0 0] 34) = w1 := ⟨_, rfl⟩
  have hb1 : Below w.heap.size w w1 := by rw [← hw1]; exact (Below.refl _ _).alloc (Nat.le_refl _) _
  have hk1 : Os w1 (.slice (some ⟨w.heap.size, 0, none⟩) 2 2) exL := by
    refine ⟨[.slice none 0 0, .slice none 0 0], rfl, ?_, fun i h h2 => ?_⟩
    · rw [← hw1]; exact Sl.lit w 34 11 2 _ (0, 0) rfl (by decide)
    · match i, h with
      | 0, _ => exact Ks.nil _
      | 1, _ => exact Ks.nil _
  have HOL := Lib.hid hk1
  have HT := Lib.hid ht
  have HB1 := Lib.hid hb1
  have HW1 := Lib.hid hw1
  obtain ⟨vt, hvt, hrt⟩ := hk1.take rfl 1 (by decide)
  have HVT := Lib.hid hvt
  rw [show ((1 : Nat) : Int) = 1 from rfl] at hrt
  clear hw1 hk1 hb1 ht hvt
  go_enter Tryd.func6, Tryd.ntmps6
  go_wp2_with fail
  rw [HW1.out]
  refine (two_any w1).mono ?_
  rintro e w2 ⟨vn, vu, vq, vg, rfl, hcf, hx⟩
  have st := Lib.hid (purge_any vn vu vq vg _ exUs exGs exL 0 w2 hcf.u ex_u64 hcf.g (HOL.out.below hx) (by decide) ex_few (HT.out.below (below_next HB1.out hx)))
  have hb2 := Lib.hid hx
  clear hcf hx
  go_wp2_with fail
  refine st.out.mono ?_
  rintro e w3 ⟨va, wsa, rfl, hob, hx⟩
  obtain ⟨aa, ca, hva, -⟩ := (hob.os hx).shape
  rw [ex_purge] at hva
  subst hva
  have hb3 := Lib.hid (below_next hb2.out hx)
  clear hob hx st hb2
  go_wp2_with fail
  refine wp_region_mix ext_grow [(1, false), (2, false), (0, true), (3, true), (4, false)] (by kernel_rfl) (by kernel_rfl) ?_
  have hb4 : Hid (Below w1.heap.size w1 w3.drew) := hb3.out.drew
  clear hb3
  generalize w3.drew = w4 at *
  repeat (refine mix_soft rfl (fun K hK => ?_); go_simp; (first | (refine hK _ ?_; clear hK K) | (apply Exists.intro; refine ⟨fun z => ?_, hK _ ?_⟩; (first | done); clear hK K)))
  clear hrt
  refine mix_loud rfl (fun K hK => ?_)
  go_simp
  intro x
  refine (two_any x.1).mono ?_
  rintro e wz ⟨vn2, vu2, vq2, vg2, rfl, hcf, hx⟩
  refine ⟨_, rfl, hx, hK _ _ ?_⟩
  clear hK K
  have CF2 := Lib.hid hcf
  have hb5 := Lib.hid (below_next hb4.out (below_next x.2 hx))
  clear hcf hx x hb4
  refine mix_loud rfl (fun K hK => ?_)
  go_simp
  intro x
  have hbx := below_next hb5.out x.2
  refine (purge_any vn2 vu2 vq2 vg2 vt exUs exGs (exL.take 1) 0 x.1 (CF2.out.below x.2).u ex_u64 (CF2.out.below x.2).g (HVT.out.below hbx) (by decide) (fun o ho => ex_few o (List.mem_of_mem_take ho)) (HT.out.below (below_next HB1.out hbx))).mono ?_
  rintro e wy ⟨vb, wsb, rfl, hob, hx⟩
  obtain ⟨ab, cb, hvb, -⟩ := (hob.os hx).shape
  rw [ex_purge1] at hvb
  subst hvb
  refine ⟨_, rfl, hx, hK _ _ ?_⟩
  clear hK K
  have hb6 := Lib.hid (below_next hbx hx)
  clear hob hx hbx x hb5 CF2 HVT
  repeat (refine mix_soft rfl (fun K hK => ?_); go_simp; (first | (refine hK _ ?_; clear hK K) | (apply Exists.intro; refine ⟨fun z => ?_, hK _ ?_⟩; (first | done); clear hK K)))
  refine mix_done fun w7 hx => ?_
  have hb7 := Lib.hid (below_next hb6.out hx)
  clear hx hb6
  go_wp2_with fail
  refine (two_any w7).mono ?_
  rintro e w8 ⟨vn3, vu3, vq3, vg3, rfl, hcf, hx⟩
  have hb8 := Lib.hid (below_next hb7.out hx)
  have st := Lib.hid (sets_any vn3 vu3 vq3 vg3 _ exUs exGs exL 0 w8 hcf.u ex_u64 hcf.g (HOL.out.below hb8.out) (by decide))
  clear hcf hx hb7
  go_wp2_with fail
  refine st.out.mono ?_
  rintro e w9 ⟨vs, rfl, hos, hx⟩
  rw [ex_sets] at hos
  have HUs : Hid (Us w9 vs [3, 3]) := Sl.of_owns hos
  have hb9 := Lib.hid (below_next hb8.out hx)
  clear hos hx st hb8
  go_wp2_with fail
  refine wp_region_mix ext_grow [(0, false), (1, false), (2, false), (3, false), (4, false), (5, false), (6, false), (7, false), (8, false), (9, false), (10, true), (11, false), (12, false), (13, false), (15, false), (16, false), (17, false), (14, true), (18, false), (19, false), (20, false), (22, false), (23, false), (24, false), (21, true), (25, false), (26, false), (27, false), (28, false), (30, false), (31, false), (32, false), (29, true), (33, false), (34, false), (35, false), (36, false)] (by kernel_rfl) (by kernel_rfl) ?_
  have HU0 : Hid (Us w9.drew vs [3, 3]) := HUs.out
  have hb0 : Hid (Below w1.heap.size w1 w9.drew) := hb9.out.drew
  clear HUs hb9
  generalize w9.drew = wa at *
  repeat (refine mix_soft rfl (fun K hK => ?_); go_simp; (first | (refine hK _ ?_; clear hK K) | (apply Exists.intro; refine ⟨fun z => ?_, hK _ ?_⟩; (first | done); clear hK K)))
  refine mix_loud rfl (fun K hK => ?_)
  go_simp
  intro x
  refine hK _ _ ?_
  clear hK K
  have HX3 : Hid (Us (x.1.alloc (.cells #[.int .u64 3, .int .u64 3] 35)) (.slice (some ⟨x.1.heap.size, 0, none⟩) 2 2) [3, 3]) := Sl.lit x.1 35 1 2 _ (0, 0) rfl (by decide)
  have hxa : Below wa.heap.size wa (x.1.alloc (.cells #[.int .u64 3, .int .u64 3] 35)) := Below.alloc x.2 (Below.size x.2) _
  have HU1 := Lib.hid (HU0.out.below hxa)
  have hbb := Lib.hid (below_next hb0.out hxa)
  clear hxa HU0 hb0
  generalize x.1.alloc (.cells #[.int .u64 3, .int .u64 3] 35) = wb at *
  generalize x.1.heap.size = Bb at *
  clear x
  have HSm : Hid (∀ z : Later wb, Calls Tryd.prog 11 #[vs, .slice (some ⟨Bb, 0, none⟩) 2 2] z.1 fun e w' => e = .returned (.bool true) ∧ Ext z.1 w') := fun z => by
    have := same_any vs (.slice (some ⟨Bb, 0, none⟩) 2 2) [3, 3] [3, 3] z.1 (HU1.out.below z.2) (HX3.out.below z.2)
    exact this
  clear HX3
  have HC0 : Hid (∀ W, Below w1.heap.size w1 W → W.heap[w.heap.size]? = some (.cells #[.int .i64 7, .int .i64 1, .int .i64 1, .int .i64 0, .string { data := #[] }, .string { data := #[] }, .string { data := #[] }, .int .i64 0, .int .i64 0, .int .i64 0, .slice none 0 0, .int .i64 15, .int .i64 1, .int .i64 1, .int .i64 0, .string { data := #[] }, .string { data := #[] }, .string { data := #[] }, .int .i64 1, .int .i64 0, .int .i64 0, .slice none 0 0] 34 (0, 0))) := fun W hW => (hW.block _ (by rw [← HW1.out]; simp)).trans (by rw [← HW1.out]; exact heap_alloc_new w _)
  have p0 : ∀ z : Later wb, z.1.cell? ⟨w.heap.size, 0, none⟩ = some (.int .i64 7) := fun z => cell_of_row z.1 w.heap.size 0 _ _ (0, 0) (HC0.out z.1 (below_next hbb.out z.2))
  have p1 : ∀ z : Later wb, z.1.cell? ⟨w.heap.size, 1, none⟩ = some (.int .i64 1) := fun z => cell_of_row z.1 w.heap.size 1 _ _ (0, 0) (HC0.out z.1 (below_next hbb.out z.2))
  have p2 : ∀ z : Later wb, z.1.cell? ⟨w.heap.size, 2, none⟩ = some (.int .i64 1) := fun z => cell_of_row z.1 w.heap.size 2 _ _ (0, 0) (HC0.out z.1 (below_next hbb.out z.2))
  have p3 : ∀ z : Later wb, z.1.cell? ⟨w.heap.size, 3, none⟩ = some (.int .i64 0) := fun z => cell_of_row z.1 w.heap.size 3 _ _ (0, 0) (HC0.out z.1 (below_next hbb.out z.2))
  have p4 : ∀ z : Later wb, z.1.cell? ⟨w.heap.size, 4, none⟩ = some (.string { data := #[] }) := fun z => cell_of_row z.1 w.heap.size 4 _ _ (0, 0) (HC0.out z.1 (below_next hbb.out z.2))
  have p5 : ∀ z : Later wb, z.1.cell? ⟨w.heap.size, 5, none⟩ = some (.string { data := #[] }) := fun z => cell_of_row z.1 w.heap.size 5 _ _ (0, 0) (HC0.out z.1 (below_next hbb.out z.2))
  have p6 : ∀ z : Later wb, z.1.cell? ⟨w.heap.size, 6, none⟩ = some (.string { data := #[] }) := fun z => cell_of_row z.1 w.heap.size 6 _ _ (0, 0) (HC0.out z.1 (below_next hbb.out z.2))
  have p7 : ∀ z : Later wb, z.1.cell? ⟨w.heap.size, 7, none⟩ = some (.int .i64 0) := fun z => cell_of_row z.1 w.heap.size 7 _ _ (0, 0) (HC0.out z.1 (below_next hbb.out z.2))
  have p8 : ∀ z : Later wb, z.1.cell? ⟨w.heap.size, 8, none⟩ = some (.int .i64 0) := fun z => cell_of_row z.1 w.heap.size 8 _ _ (0, 0) (HC0.out z.1 (below_next hbb.out z.2))
  have p9 : ∀ z : Later wb, z.1.cell? ⟨w.heap.size, 9, none⟩ = some (.int .i64 0) := fun z => cell_of_row z.1 w.heap.size 9 _ _ (0, 0) (HC0.out z.1 (below_next hbb.out z.2))
  have p10 : ∀ z : Later wb, z.1.cell? ⟨w.heap.size, 10, none⟩ = some (.slice none 0 0) := fun z => cell_of_row z.1 w.heap.size 10 _ _ (0, 0) (HC0.out z.1 (below_next hbb.out z.2))
  have q0 : ∀ z : Later wb, z.1.cell? ⟨w.heap.size, 11, none⟩ = some (.int .i64 15) := fun z => cell_of_row z.1 w.heap.size 11 _ _ (0, 0) (HC0.out z.1 (below_next hbb.out z.2))
  have q1 : ∀ z : Later wb, z.1.cell? ⟨w.heap.size, 12, none⟩ = some (.int .i64 1) := fun z => cell_of_row z.1 w.heap.size 12 _ _ (0, 0) (HC0.out z.1 (below_next hbb.out z.2))
  have q2 : ∀ z : Later wb, z.1.cell? ⟨w.heap.size, 13, none⟩ = some (.int .i64 1) := fun z => cell_of_row z.1 w.heap.size 13 _ _ (0, 0) (HC0.out z.1 (below_next hbb.out z.2))
  have q3 : ∀ z : Later wb, z.1.cell? ⟨w.heap.size, 14, none⟩ = some (.int .i64 0) := fun z => cell_of_row z.1 w.heap.size 14 _ _ (0, 0) (HC0.out z.1 (below_next hbb.out z.2))
  have q4 : ∀ z : Later wb, z.1.cell? ⟨w.heap.size, 15, none⟩ = some (.string { data := #[] }) := fun z => cell_of_row z.1 w.heap.size 15 _ _ (0, 0) (HC0.out z.1 (below_next hbb.out z.2))
  have q5 : ∀ z : Later wb, z.1.cell? ⟨w.heap.size, 16, none⟩ = some (.string { data := #[] }) := fun z => cell_of_row z.1 w.heap.size 16 _ _ (0, 0) (HC0.out z.1 (below_next hbb.out z.2))
  have q6 : ∀ z : Later wb, z.1.cell? ⟨w.heap.size, 17, none⟩ = some (.string { data := #[] }) := fun z => cell_of_row z.1 w.heap.size 17 _ _ (0, 0) (HC0.out z.1 (below_next hbb.out z.2))
  have q7 : ∀ z : Later wb, z.1.cell? ⟨w.heap.size, 18, none⟩ = some (.int .i64 1) := fun z => cell_of_row z.1 w.heap.size 18 _ _ (0, 0) (HC0.out z.1 (below_next hbb.out z.2))
  have q8 : ∀ z : Later wb, z.1.cell? ⟨w.heap.size, 19, none⟩ = some (.int .i64 0) := fun z => cell_of_row z.1 w.heap.size 19 _ _ (0, 0) (HC0.out z.1 (below_next hbb.out z.2))
  have q9 : ∀ z : Later wb, z.1.cell? ⟨w.heap.size, 20, none⟩ = some (.int .i64 0) := fun z => cell_of_row z.1 w.heap.size 20 _ _ (0, 0) (HC0.out z.1 (below_next hbb.out z.2))
  have q10 : ∀ z : Later wb, z.1.cell? ⟨w.heap.size, 21, none⟩ = some (.slice none 0 0) := fun z => cell_of_row z.1 w.heap.size 21 _ _ (0, 0) (HC0.out z.1 (below_next hbb.out z.2))
  repeat (refine mix_soft rfl (fun K hK => ?_); go_simp; (first | (refine hK _ ?_; clear hK K) | (apply Exists.intro; refine ⟨fun z => ?_, hK _ ?_⟩; (first | (go_at_call 11; with_reducible exact HSm.out z)); clear hK K)))
  clear HSm HU1 p0 q0 p1 q1 p2 q2 p3 q3 p4 q4 p5 q5 p6 q6 p7 q7 p8 q8 p9 q9 p10 q10
  refine mix_loud rfl (fun K hK => ?_)
  go_simp
  intro x
  refine (two_any x.1).mono ?_
  rintro e wc ⟨vn4, vu4, vq4, vg4, rfl, hcf, hx⟩
  refine ⟨_, rfl, hx, hK _ _ ?_⟩
  clear hK K
  have hbc := Lib.hid (below_next hbb.out (below_next x.2 hx))
  have HFy : Hid (∀ z : Later wc, Calls Tryd.prog 9 #[.agg #[vn4, vu4, vq4, vg4], .agg #[.int .i64 15, .int .i64 1, .int .i64 1, .int .i64 0, .string { data := #[] }, .string { data := #[] }, .string { data := #[] }, .int .i64 1, .int .i64 0, .int .i64 0, .slice none 0 0], .int .u64 1] z.1 fun e w' => e = .returned (.bool true) ∧ Ext z.1 w') := fun z => by
    have := flows_any vn4 vu4 vq4 vg4 exGs exOp2 (.slice none 0 0) 1 z.1 (hcf.below z.2).g (by decide)
    rw [ex_flows.1] at this
    exact this
  clear hcf hx x hbb
  have p0 : ∀ z : Later wc, z.1.cell? ⟨w.heap.size, 0, none⟩ = some (.int .i64 7) := fun z => cell_of_row z.1 w.heap.size 0 _ _ (0, 0) (HC0.out z.1 (below_next hbc.out z.2))
  have p1 : ∀ z : Later wc, z.1.cell? ⟨w.heap.size, 1, none⟩ = some (.int .i64 1) := fun z => cell_of_row z.1 w.heap.size 1 _ _ (0, 0) (HC0.out z.1 (below_next hbc.out z.2))
  have p2 : ∀ z : Later wc, z.1.cell? ⟨w.heap.size, 2, none⟩ = some (.int .i64 1) := fun z => cell_of_row z.1 w.heap.size 2 _ _ (0, 0) (HC0.out z.1 (below_next hbc.out z.2))
  have p3 : ∀ z : Later wc, z.1.cell? ⟨w.heap.size, 3, none⟩ = some (.int .i64 0) := fun z => cell_of_row z.1 w.heap.size 3 _ _ (0, 0) (HC0.out z.1 (below_next hbc.out z.2))
  have p4 : ∀ z : Later wc, z.1.cell? ⟨w.heap.size, 4, none⟩ = some (.string { data := #[] }) := fun z => cell_of_row z.1 w.heap.size 4 _ _ (0, 0) (HC0.out z.1 (below_next hbc.out z.2))
  have p5 : ∀ z : Later wc, z.1.cell? ⟨w.heap.size, 5, none⟩ = some (.string { data := #[] }) := fun z => cell_of_row z.1 w.heap.size 5 _ _ (0, 0) (HC0.out z.1 (below_next hbc.out z.2))
  have p6 : ∀ z : Later wc, z.1.cell? ⟨w.heap.size, 6, none⟩ = some (.string { data := #[] }) := fun z => cell_of_row z.1 w.heap.size 6 _ _ (0, 0) (HC0.out z.1 (below_next hbc.out z.2))
  have p7 : ∀ z : Later wc, z.1.cell? ⟨w.heap.size, 7, none⟩ = some (.int .i64 0) := fun z => cell_of_row z.1 w.heap.size 7 _ _ (0, 0) (HC0.out z.1 (below_next hbc.out z.2))
  have p8 : ∀ z : Later wc, z.1.cell? ⟨w.heap.size, 8, none⟩ = some (.int .i64 0) := fun z => cell_of_row z.1 w.heap.size 8 _ _ (0, 0) (HC0.out z.1 (below_next hbc.out z.2))
  have p9 : ∀ z : Later wc, z.1.cell? ⟨w.heap.size, 9, none⟩ = some (.int .i64 0) := fun z => cell_of_row z.1 w.heap.size 9 _ _ (0, 0) (HC0.out z.1 (below_next hbc.out z.2))
  have p10 : ∀ z : Later wc, z.1.cell? ⟨w.heap.size, 10, none⟩ = some (.slice none 0 0) := fun z => cell_of_row z.1 w.heap.size 10 _ _ (0, 0) (HC0.out z.1 (below_next hbc.out z.2))
  have q0 : ∀ z : Later wc, z.1.cell? ⟨w.heap.size, 11, none⟩ = some (.int .i64 15) := fun z => cell_of_row z.1 w.heap.size 11 _ _ (0, 0) (HC0.out z.1 (below_next hbc.out z.2))
  have q1 : ∀ z : Later wc, z.1.cell? ⟨w.heap.size, 12, none⟩ = some (.int .i64 1) := fun z => cell_of_row z.1 w.heap.size 12 _ _ (0, 0) (HC0.out z.1 (below_next hbc.out z.2))
  have q2 : ∀ z : Later wc, z.1.cell? ⟨w.heap.size, 13, none⟩ = some (.int .i64 1) := fun z => cell_of_row z.1 w.heap.size 13 _ _ (0, 0) (HC0.out z.1 (below_next hbc.out z.2))
  have q3 : ∀ z : Later wc, z.1.cell? ⟨w.heap.size, 14, none⟩ = some (.int .i64 0) := fun z => cell_of_row z.1 w.heap.size 14 _ _ (0, 0) (HC0.out z.1 (below_next hbc.out z.2))
  have q4 : ∀ z : Later wc, z.1.cell? ⟨w.heap.size, 15, none⟩ = some (.string { data := #[] }) := fun z => cell_of_row z.1 w.heap.size 15 _ _ (0, 0) (HC0.out z.1 (below_next hbc.out z.2))
  have q5 : ∀ z : Later wc, z.1.cell? ⟨w.heap.size, 16, none⟩ = some (.string { data := #[] }) := fun z => cell_of_row z.1 w.heap.size 16 _ _ (0, 0) (HC0.out z.1 (below_next hbc.out z.2))
  have q6 : ∀ z : Later wc, z.1.cell? ⟨w.heap.size, 17, none⟩ = some (.string { data := #[] }) := fun z => cell_of_row z.1 w.heap.size 17 _ _ (0, 0) (HC0.out z.1 (below_next hbc.out z.2))
  have q7 : ∀ z : Later wc, z.1.cell? ⟨w.heap.size, 18, none⟩ = some (.int .i64 1) := fun z => cell_of_row z.1 w.heap.size 18 _ _ (0, 0) (HC0.out z.1 (below_next hbc.out z.2))
  have q8 : ∀ z : Later wc, z.1.cell? ⟨w.heap.size, 19, none⟩ = some (.int .i64 0) := fun z => cell_of_row z.1 w.heap.size 19 _ _ (0, 0) (HC0.out z.1 (below_next hbc.out z.2))
  have q9 : ∀ z : Later wc, z.1.cell? ⟨w.heap.size, 20, none⟩ = some (.int .i64 0) := fun z => cell_of_row z.1 w.heap.size 20 _ _ (0, 0) (HC0.out z.1 (below_next hbc.out z.2))
  have q10 : ∀ z : Later wc, z.1.cell? ⟨w.heap.size, 21, none⟩ = some (.slice none 0 0) := fun z => cell_of_row z.1 w.heap.size 21 _ _ (0, 0) (HC0.out z.1 (below_next hbc.out z.2))
  repeat (refine mix_soft rfl (fun K hK => ?_); go_simp; (first | (refine hK _ ?_; clear hK K) | (apply Exists.intro; refine ⟨fun z => ?_, hK _ ?_⟩; (first | (go_at_call 9; with_reducible exact HFy.out z)); clear hK K)))
  clear HFy p0 q0 p1 q1 p2 q2 p3 q3 p4 q4 p5 q5 p6 q6 p7 q7 p8 q8 p9 q9 p10 q10
  refine mix_loud rfl (fun K hK => ?_)
  go_simp
  intro x
  refine (two_any x.1).mono ?_
  rintro e wd ⟨vn5, vu5, vq5, vg5, rfl, hcf, hx⟩
  refine ⟨_, rfl, hx, hK _ _ ?_⟩
  clear hK K
  have hbd := Lib.hid (below_next hbc.out (below_next x.2 hx))
  have HFy : Hid (∀ z : Later wd, Calls Tryd.prog 9 #[.agg #[vn5, vu5, vq5, vg5], .agg #[.int .i64 15, .int .i64 1, .int .i64 1, .int .i64 0, .string { data := #[] }, .string { data := #[] }, .string { data := #[] }, .int .i64 1, .int .i64 0, .int .i64 0, .slice none 0 0], .int .u64 2] z.1 fun e w' => e = .returned (.bool false) ∧ Ext z.1 w') := fun z => by
    have := flows_any vn5 vu5 vq5 vg5 exGs exOp2 (.slice none 0 0) 2 z.1 (hcf.below z.2).g (by decide)
    rw [ex_flows.2.1] at this
    exact this
  clear hcf hx x hbc
  have p0 : ∀ z : Later wd, z.1.cell? ⟨w.heap.size, 0, none⟩ = some (.int .i64 7) := fun z => cell_of_row z.1 w.heap.size 0 _ _ (0, 0) (HC0.out z.1 (below_next hbd.out z.2))
  have p1 : ∀ z : Later wd, z.1.cell? ⟨w.heap.size, 1, none⟩ = some (.int .i64 1) := fun z => cell_of_row z.1 w.heap.size 1 _ _ (0, 0) (HC0.out z.1 (below_next hbd.out z.2))
  have p2 : ∀ z : Later wd, z.1.cell? ⟨w.heap.size, 2, none⟩ = some (.int .i64 1) := fun z => cell_of_row z.1 w.heap.size 2 _ _ (0, 0) (HC0.out z.1 (below_next hbd.out z.2))
  have p3 : ∀ z : Later wd, z.1.cell? ⟨w.heap.size, 3, none⟩ = some (.int .i64 0) := fun z => cell_of_row z.1 w.heap.size 3 _ _ (0, 0) (HC0.out z.1 (below_next hbd.out z.2))
  have p4 : ∀ z : Later wd, z.1.cell? ⟨w.heap.size, 4, none⟩ = some (.string { data := #[] }) := fun z => cell_of_row z.1 w.heap.size 4 _ _ (0, 0) (HC0.out z.1 (below_next hbd.out z.2))
  have p5 : ∀ z : Later wd, z.1.cell? ⟨w.heap.size, 5, none⟩ = some (.string { data := #[] }) := fun z => cell_of_row z.1 w.heap.size 5 _ _ (0, 0) (HC0.out z.1 (below_next hbd.out z.2))
  have p6 : ∀ z : Later wd, z.1.cell? ⟨w.heap.size, 6, none⟩ = some (.string { data := #[] }) := fun z => cell_of_row z.1 w.heap.size 6 _ _ (0, 0) (HC0.out z.1 (below_next hbd.out z.2))
  have p7 : ∀ z : Later wd, z.1.cell? ⟨w.heap.size, 7, none⟩ = some (.int .i64 0) := fun z => cell_of_row z.1 w.heap.size 7 _ _ (0, 0) (HC0.out z.1 (below_next hbd.out z.2))
  have p8 : ∀ z : Later wd, z.1.cell? ⟨w.heap.size, 8, none⟩ = some (.int .i64 0) := fun z => cell_of_row z.1 w.heap.size 8 _ _ (0, 0) (HC0.out z.1 (below_next hbd.out z.2))
  have p9 : ∀ z : Later wd, z.1.cell? ⟨w.heap.size, 9, none⟩ = some (.int .i64 0) := fun z => cell_of_row z.1 w.heap.size 9 _ _ (0, 0) (HC0.out z.1 (below_next hbd.out z.2))
  have p10 : ∀ z : Later wd, z.1.cell? ⟨w.heap.size, 10, none⟩ = some (.slice none 0 0) := fun z => cell_of_row z.1 w.heap.size 10 _ _ (0, 0) (HC0.out z.1 (below_next hbd.out z.2))
  have q0 : ∀ z : Later wd, z.1.cell? ⟨w.heap.size, 11, none⟩ = some (.int .i64 15) := fun z => cell_of_row z.1 w.heap.size 11 _ _ (0, 0) (HC0.out z.1 (below_next hbd.out z.2))
  have q1 : ∀ z : Later wd, z.1.cell? ⟨w.heap.size, 12, none⟩ = some (.int .i64 1) := fun z => cell_of_row z.1 w.heap.size 12 _ _ (0, 0) (HC0.out z.1 (below_next hbd.out z.2))
  have q2 : ∀ z : Later wd, z.1.cell? ⟨w.heap.size, 13, none⟩ = some (.int .i64 1) := fun z => cell_of_row z.1 w.heap.size 13 _ _ (0, 0) (HC0.out z.1 (below_next hbd.out z.2))
  have q3 : ∀ z : Later wd, z.1.cell? ⟨w.heap.size, 14, none⟩ = some (.int .i64 0) := fun z => cell_of_row z.1 w.heap.size 14 _ _ (0, 0) (HC0.out z.1 (below_next hbd.out z.2))
  have q4 : ∀ z : Later wd, z.1.cell? ⟨w.heap.size, 15, none⟩ = some (.string { data := #[] }) := fun z => cell_of_row z.1 w.heap.size 15 _ _ (0, 0) (HC0.out z.1 (below_next hbd.out z.2))
  have q5 : ∀ z : Later wd, z.1.cell? ⟨w.heap.size, 16, none⟩ = some (.string { data := #[] }) := fun z => cell_of_row z.1 w.heap.size 16 _ _ (0, 0) (HC0.out z.1 (below_next hbd.out z.2))
  have q6 : ∀ z : Later wd, z.1.cell? ⟨w.heap.size, 17, none⟩ = some (.string { data := #[] }) := fun z => cell_of_row z.1 w.heap.size 17 _ _ (0, 0) (HC0.out z.1 (below_next hbd.out z.2))
  have q7 : ∀ z : Later wd, z.1.cell? ⟨w.heap.size, 18, none⟩ = some (.int .i64 1) := fun z => cell_of_row z.1 w.heap.size 18 _ _ (0, 0) (HC0.out z.1 (below_next hbd.out z.2))
  have q8 : ∀ z : Later wd, z.1.cell? ⟨w.heap.size, 19, none⟩ = some (.int .i64 0) := fun z => cell_of_row z.1 w.heap.size 19 _ _ (0, 0) (HC0.out z.1 (below_next hbd.out z.2))
  have q9 : ∀ z : Later wd, z.1.cell? ⟨w.heap.size, 20, none⟩ = some (.int .i64 0) := fun z => cell_of_row z.1 w.heap.size 20 _ _ (0, 0) (HC0.out z.1 (below_next hbd.out z.2))
  have q10 : ∀ z : Later wd, z.1.cell? ⟨w.heap.size, 21, none⟩ = some (.slice none 0 0) := fun z => cell_of_row z.1 w.heap.size 21 _ _ (0, 0) (HC0.out z.1 (below_next hbd.out z.2))
  repeat (refine mix_soft rfl (fun K hK => ?_); go_simp; (first | (refine hK _ ?_; clear hK K) | (apply Exists.intro; refine ⟨fun z => ?_, hK _ ?_⟩; (first | (go_at_call 9; with_reducible exact HFy.out z)); clear hK K)))
  clear HFy p0 q0 p1 q1 p2 q2 p3 q3 p4 q4 p5 q5 p6 q6 p7 q7 p8 q8 p9 q9 p10 q10
  refine mix_loud rfl (fun K hK => ?_)
  go_simp
  intro x
  refine (two_any x.1).mono ?_
  rintro e we ⟨vn6, vu6, vq6, vg6, rfl, hcf, hx⟩
  refine ⟨_, rfl, hx, hK _ _ ?_⟩
  clear hK K
  have hbe := Lib.hid (below_next hbd.out (below_next x.2 hx))
  have HFy : Hid (∀ z : Later we, Calls Tryd.prog 9 #[.agg #[vn6, vu6, vq6, vg6], .agg #[.int .i64 7, .int .i64 1, .int .i64 1, .int .i64 0, .string { data := #[] }, .string { data := #[] }, .string { data := #[] }, .int .i64 0, .int .i64 0, .int .i64 0, .slice none 0 0], .int .u64 3] z.1 fun e w' => e = .returned (.bool false) ∧ Ext z.1 w') := fun z => by
    have := flows_any vn6 vu6 vq6 vg6 exGs exOp1 (.slice none 0 0) 3 z.1 (hcf.below z.2).g (by decide)
    rw [ex_flows.2.2] at this
    exact this
  clear hcf hx x hbd
  have p0 : ∀ z : Later we, z.1.cell? ⟨w.heap.size, 0, none⟩ = some (.int .i64 7) := fun z => cell_of_row z.1 w.heap.size 0 _ _ (0, 0) (HC0.out z.1 (below_next hbe.out z.2))
  have p1 : ∀ z : Later we, z.1.cell? ⟨w.heap.size, 1, none⟩ = some (.int .i64 1) := fun z => cell_of_row z.1 w.heap.size 1 _ _ (0, 0) (HC0.out z.1 (below_next hbe.out z.2))
  have p2 : ∀ z : Later we, z.1.cell? ⟨w.heap.size, 2, none⟩ = some (.int .i64 1) := fun z => cell_of_row z.1 w.heap.size 2 _ _ (0, 0) (HC0.out z.1 (below_next hbe.out z.2))
  have p3 : ∀ z : Later we, z.1.cell? ⟨w.heap.size, 3, none⟩ = some (.int .i64 0) := fun z => cell_of_row z.1 w.heap.size 3 _ _ (0, 0) (HC0.out z.1 (below_next hbe.out z.2))
  have p4 : ∀ z : Later we, z.1.cell? ⟨w.heap.size, 4, none⟩ = some (.string { data := #[] }) := fun z => cell_of_row z.1 w.heap.size 4 _ _ (0, 0) (HC0.out z.1 (below_next hbe.out z.2))
  have p5 : ∀ z : Later we, z.1.cell? ⟨w.heap.size, 5, none⟩ = some (.string { data := #[] }) := fun z => cell_of_row z.1 w.heap.size 5 _ _ (0, 0) (HC0.out z.1 (below_next hbe.out z.2))
  have p6 : ∀ z : Later we, z.1.cell? ⟨w.heap.size, 6, none⟩ = some (.string { data := #[] }) := fun z => cell_of_row z.1 w.heap.size 6 _ _ (0, 0) (HC0.out z.1 (below_next hbe.out z.2))
  have p7 : ∀ z : Later we, z.1.cell? ⟨w.heap.size, 7, none⟩ = some (.int .i64 0) := fun z => cell_of_row z.1 w.heap.size 7 _ _ (0, 0) (HC0.out z.1 (below_next hbe.out z.2))
  have p8 : ∀ z : Later we, z.1.cell? ⟨w.heap.size, 8, none⟩ = some (.int .i64 0) := fun z => cell_of_row z.1 w.heap.size 8 _ _ (0, 0) (HC0.out z.1 (below_next hbe.out z.2))
  have p9 : ∀ z : Later we, z.1.cell? ⟨w.heap.size, 9, none⟩ = some (.int .i64 0) := fun z => cell_of_row z.1 w.heap.size 9 _ _ (0, 0) (HC0.out z.1 (below_next hbe.out z.2))
  have p10 : ∀ z : Later we, z.1.cell? ⟨w.heap.size, 10, none⟩ = some (.slice none 0 0) := fun z => cell_of_row z.1 w.heap.size 10 _ _ (0, 0) (HC0.out z.1 (below_next hbe.out z.2))
  have q0 : ∀ z : Later we, z.1.cell? ⟨w.heap.size, 11, none⟩ = some (.int .i64 15) := fun z => cell_of_row z.1 w.heap.size 11 _ _ (0, 0) (HC0.out z.1 (below_next hbe.out z.2))
  have q1 : ∀ z : Later we, z.1.cell? ⟨w.heap.size, 12, none⟩ = some (.int .i64 1) := fun z => cell_of_row z.1 w.heap.size 12 _ _ (0, 0) (HC0.out z.1 (below_next hbe.out z.2))
  have q2 : ∀ z : Later we, z.1.cell? ⟨w.heap.size, 13, none⟩ = some (.int .i64 1) := fun z => cell_of_row z.1 w.heap.size 13 _ _ (0, 0) (HC0.out z.1 (below_next hbe.out z.2))
  have q3 : ∀ z : Later we, z.1.cell? ⟨w.heap.size, 14, none⟩ = some (.int .i64 0) := fun z => cell_of_row z.1 w.heap.size 14 _ _ (0, 0) (HC0.out z.1 (below_next hbe.out z.2))
  have q4 : ∀ z : Later we, z.1.cell? ⟨w.heap.size, 15, none⟩ = some (.string { data := #[] }) := fun z => cell_of_row z.1 w.heap.size 15 _ _ (0, 0) (HC0.out z.1 (below_next hbe.out z.2))
  have q5 : ∀ z : Later we, z.1.cell? ⟨w.heap.size, 16, none⟩ = some (.string { data := #[] }) := fun z => cell_of_row z.1 w.heap.size 16 _ _ (0, 0) (HC0.out z.1 (below_next hbe.out z.2))
  have q6 : ∀ z : Later we, z.1.cell? ⟨w.heap.size, 17, none⟩ = some (.string { data := #[] }) := fun z => cell_of_row z.1 w.heap.size 17 _ _ (0, 0) (HC0.out z.1 (below_next hbe.out z.2))
  have q7 : ∀ z : Later we, z.1.cell? ⟨w.heap.size, 18, none⟩ = some (.int .i64 1) := fun z => cell_of_row z.1 w.heap.size 18 _ _ (0, 0) (HC0.out z.1 (below_next hbe.out z.2))
  have q8 : ∀ z : Later we, z.1.cell? ⟨w.heap.size, 19, none⟩ = some (.int .i64 0) := fun z => cell_of_row z.1 w.heap.size 19 _ _ (0, 0) (HC0.out z.1 (below_next hbe.out z.2))
  have q9 : ∀ z : Later we, z.1.cell? ⟨w.heap.size, 20, none⟩ = some (.int .i64 0) := fun z => cell_of_row z.1 w.heap.size 20 _ _ (0, 0) (HC0.out z.1 (below_next hbe.out z.2))
  have q10 : ∀ z : Later we, z.1.cell? ⟨w.heap.size, 21, none⟩ = some (.slice none 0 0) := fun z => cell_of_row z.1 w.heap.size 21 _ _ (0, 0) (HC0.out z.1 (below_next hbe.out z.2))
  repeat (refine mix_soft rfl (fun K hK => ?_); go_simp; (first | (refine hK _ ?_; clear hK K) | (apply Exists.intro; refine ⟨fun z => ?_, hK _ ?_⟩; (first | (go_at_call 9; with_reducible exact HFy.out z)); clear hK K)))
  clear HFy p0 q0 p1 q1 p2 q2 p3 q3 p4 q4 p5 q5 p6 q6 p7 q7 p8 q8 p9 q9 p10 q10
  refine mix_done fun wf hx => ?_
  have hfin := Lib.hid (below_next HB1.out (below_next hbe.out hx))
  clear hx hbe
  go_wp2_with fail
  go_ret
  exact ⟨rfl, hfin.out⟩
end Go.Proofs.YtljpfocmnppjgaaDoor
