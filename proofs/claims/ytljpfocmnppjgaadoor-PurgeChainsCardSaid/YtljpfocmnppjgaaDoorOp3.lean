/- The labels ahead of each operation: plain, and what the reference's Sets returns. -/
import Derived.Test.YtljpfocmnppjgaaDoorOp2
import Derived.Test.YtljpfocmnppjgaaDoorRefJoin
import Derived.Test.YtljpfocmnppjgaaDoorMix
namespace Go.Proofs.YtljpfocmnppjgaaDoor
open Go Go.RowKit

namespace L
def step (us : List Nat) (gs : List Gr) (o : Opr) (s : Nat) : Nat := if flows gs o s then s ||| down us o.level else s
/-- Behind all of them, from the end to the beginning. -/
def cur (us : List Nat) (gs : List Gr) (d : Nat) (l : List Opr) : Nat := l.foldr (step us gs) d
def sets (us : List Nat) (gs : List Gr) (d : Nat) (l : List Opr) : List Nat := (List.range l.length).map fun i => cur us gs d (l.drop i)
theorem step_lt {us : List Nat} {gs : List Gr} {o : Opr} {s : Nat} (h : s < 18446744073709551616) : step us gs o s < 18446744073709551616 := by
  unfold step
  split
  · exact Nat.or_lt_two_pow (n := 64) h (down_lt us _)
  · exact h
theorem cur_lt {us : List Nat} {gs : List Gr} {d : Nat} (h : d < 18446744073709551616) : ∀ l, cur us gs d l < 18446744073709551616
  | [] => h
  | _ :: l => step_lt (cur_lt h l)
theorem cur_step {us : List Nat} {gs : List Gr} {d : Nat} {l : List Opr} {j : Nat} (h : j < l.length) : cur us gs d (l.drop j) = step us gs l[j] (cur us gs d (l.drop (j + 1))) := by
  rw [List.drop_eq_getElem_cons h]
  rfl
theorem sets_length (us : List Nat) (gs : List Gr) (d : Nat) (l : List Opr) : (sets us gs d l).length = l.length := by simp [sets]
theorem sets_at {us : List Nat} {gs : List Gr} {d : Nat} {l : List Opr} {j : Nat} (h : j < (sets us gs d l).length) : (sets us gs d l)[j] = cur us gs d (l.drop j) := by simp [sets]
theorem sets_u64 {us : List Nat} {gs : List Gr} {d : Nat} (h : d < 18446744073709551616) (l : List Opr) : U64s (sets us gs d l) := fun x hx => by
  obtain ⟨i, -, rfl⟩ := List.mem_map.1 hx
  exact cur_lt h _
/-- The row, filled from behind. -/
def fill (us : List Nat) (gs : List Gr) (d : Nat) (l : List Opr) (m : Nat) : List Nat := List.replicate m 0 ++ (sets us gs d l).drop m
theorem fill_length {us : List Nat} {gs : List Gr} {d : Nat} {l : List Opr} {m : Nat} (h : m ≤ l.length) : (fill us gs d l m).length = l.length := by
  unfold fill
  rw [List.length_append, List.length_replicate, List.length_drop, sets_length]
  omega
theorem fill_start (us : List Nat) (gs : List Gr) (d : Nat) (l : List Opr) : fill us gs d l l.length = List.replicate l.length 0 := by
  unfold fill
  rw [List.drop_of_length_le (by rw [sets_length]; exact Nat.le_refl _), List.append_nil]
theorem fill_end (us : List Nat) (gs : List Gr) (d : Nat) (l : List Opr) : fill us gs d l 0 = sets us gs d l := rfl
theorem fill_set {us : List Nat} {gs : List Gr} {d : Nat} {l : List Opr} {j : Nat} (h : j < l.length) : (fill us gs d l (j + 1)).set j (cur us gs d (l.drop j)) = fill us gs d l j := by
  unfold fill
  have hj : j < (sets us gs d l).length := by rw [sets_length]; exact h
  rw [List.replicate_succ', List.append_assoc, List.set_append_right _ _ (by simp), List.length_replicate, Nat.sub_self, List.drop_eq_getElem_cons hj, sets_at hj]
  rfl
end L
theorem u64Cells_set (l : List Nat) (j x : Nat) : (u64Cells l).set j (.int .u64 (x : Int)) = u64Cells (l.set j x) := by
  unfold u64Cells
  rw [List.map_set]
theorem u64Cells_zeros (n : Nat) : u64Cells (List.replicate n 0) = List.replicate n (.int .u64 0) := by simp [u64Cells]
/-- A stored cell of an own row of numbers. -/
theorem own_store1 {w : World} {base n cap g : Nat} {l : List Nat} (h : w.ownsRow base 35 1 (.slice (some ⟨g, 0, none⟩) n cap) n (u64Cells l)) (j x : Nat) :
    (w.setCell ⟨g, j, none⟩ (.int .u64 (x : Int))).ownsRow base 35 1 (.slice (some ⟨g, 0, none⟩) n cap) n (u64Cells (l.set j x)) := by
  have := (h.stored j (.int .u64 (x : Int))).1
  rw [u64Cells_set] at this
  exact this
theorem own_cell1 {w : World} {base n cap g : Nat} {l : List Nat} (h : w.ownsRow base 35 1 (.slice (some ⟨g, 0, none⟩) n cap) n (u64Cells l)) {j : Nat} (hj : j < n) :
    ∃ v, w.cell? ⟨g, j, none⟩ = some v ∧ w.frozen? ⟨g, j, none⟩ = false := by
  have hl := h.1
  rw [Nat.mul_one] at hl
  exact ⟨(u64Cells l)[j]'(by omega), by rw [h.cellAt _ (by omega)]; exact List.getElem?_eq_getElem _, h.frozenAt _⟩

/-- A configuration's block. -/
def Cb (w : World) (B : Nat) (vn vu vq vg : Value) : Prop := w.heap[B]? = some (.cells #[vn, vu, vq, vg] 27 (0, 0))
theorem Cb.lt {w : World} {B : Nat} {vn vu vq vg : Value} (h : Cb w B vn vu vq vg) : B < w.heap.size := (Array.getElem?_eq_some_iff.1 h).1
theorem Cb.later {w w' : World} {B : Nat} {vn vu vq vg : Value} (h : Cb w B vn vu vq vg) (hb : Below w.heap.size w w') : Cb w' B vn vu vq vg := (hb.block B h.lt).trans h
theorem Cb.cell {w : World} {B : Nat} {vn vu vq vg : Value} (h : Cb w B vn vu vq vg) : w.cell? ⟨B, 0, none⟩ = some vn ∧ w.cell? ⟨B, 1, none⟩ = some vu ∧ w.cell? ⟨B, 2, none⟩ = some vq ∧ w.cell? ⟨B, 3, none⟩ = some vg :=
  ⟨cell_of_row w B 0 _ _ (0, 0) h, cell_of_row w B 1 _ _ (0, 0) h, cell_of_row w B 2 _ _ (0, 0) h, cell_of_row w B 3 _ _ (0, 0) h⟩
theorem Cb.new (w : World) (vn vu vq vg : Value) : Cb (w.alloc (.cells #[vn, vu, vq, vg] 27)) w.heap.size vn vu vq vg := heap_alloc_new w _
theorem Cb.grown {w w' : World} {B : Nat} {vn vu vq vg : Value} {row : Option Nat} (h : Cb w B vn vu vq vg) (hb : w.grownBy w' row) (hB : some B ≠ row) : Cb w' B vn vu vq vg := (hb.block B h.lt hB).trans h
theorem Cb.far {w : World} {B : Nat} {vn vu vq vg : Value} (h : Cb w B vn vu vq vg) {p : Addr} (hp : B ≠ p.block) (x : Value) : Cb (w.setCell p x) B vn vu vq vg := (Below.heap_setCell w p x B hp).trans h

set_option maxRecDepth 4000 in
set_option maxHeartbeats 4000000 in
theorem refSets_any (vn vu vq vg vl : Value) (us : List Nat) (gs : List Gr) (l : List Opr) (level : Int) (w : World) (hu : Us w vu us) (hU : U64s us) (hg : Gs w vg gs) (hl : Os w vl l) (hlen : l.length ≤ 1000000) :
    Calls Tryd.prog 8 #[cfv vn vu vq vg, vl, .int .i64 level] w fun e w' => ∃ v', e = .returned v' ∧ w'.ownsRow w.heap.size 35 1 v' l.length (u64Cells (L.sets us gs (L.down us level) l)) ∧ Below w.heap.size w w' := by
  obtain ⟨ao, cap, rfl, -⟩ := hl.shape
  have HL := Lib.hid hl
  have HF := Lib.hid (fun W (hW : Below w.heap.size w W) (o : Opr) (u : Value) (s : Nat) (hs : s < 18446744073709551616) => refFlows_any vn vu vq vg gs o u s W (Three.Ss.below hg hW) hs)
  have HD := Lib.hid (fun W (hW : Below w.heap.size w W) (a : Int) => refDown_any vu us a W (hu.below hW) hU)
  have HUN := Lib.hid (fun W (a b : Nat) (ha : a < 18446744073709551616) (hb : b < 18446744073709551616) => union_any a b ha hb W)
  have hdlt := L.down_lt us level
  obtain ⟨n, hn⟩ : ∃ n, l.length = n := ⟨_, rfl⟩
  rw [hn] at HL hlen ⊢
  have HN := Lib.hid hn
  have hfs : Hid (L.fill us gs (L.down us level) l n = List.replicate n 0) := by rw [← hn]; exact L.fill_start _ _ _ _
  have HCB := Lib.hid (Cb.new w vn vu vq vg)
  have hb1 : Hid (Below w.heap.size w (w.alloc (.cells #[vn, vu, vq, vg] 27))) := (Below.refl _ _).alloc (Nat.le_refl _) _
  have hs1 : (w.alloc (.cells #[vn, vu, vq, vg] 27)).heap.size = w.heap.size + 1 := by simp
  clear hl hg hu hU hn
  go_enter Tryd.func8, Tryd.ntmps8
  go_wp2_with (at_make; go_must (refine wpList_make_sl rfl _ _ 23 rfl (w.heap.size + 1) 35 (.int .u64 0) 1 8 Tryd.underlying23 infoU64 _ _ n rfl rfl (by omega) (by unfold maxLen; omega) (by rw [hs1]; exact Nat.le_refl _) ?_))
  intro w1 hown hgrow
  have HC1 := Lib.hid (HCB.out.grown hgrow (by simp))
  have hb2 : Hid (Below w.heap.size w w1) := hb1.out.grown hgrow hb1.out.size (fun k hk => by cases hk)
  have hown2 : Hid (w1.ownsRow (w.heap.size + 1) 35 1 (.slice (some ⟨w.heap.size + 1, 0, none⟩) n n) n (u64Cells (L.fill us gs (L.down us level) l n))) := by
    rw [toList_madeCells_one] at hown
    unfold Hid
    rw [hfs.out, u64Cells_zeros]
    simpa using hown
  clear hown hgrow HCB hb1 hs1
  obtain ⟨B, hB⟩ : ∃ B, w.heap.size = B := ⟨_, rfl⟩
  have HB := Lib.hid hB
  rw [hB] at HC1 hb2 hown2
  try rw [hB]
  clear hB
  obtain ⟨q1, q2, q3, q4⟩ := HC1.out.cell
  have s := Lib.hid (HD.out w1 (by rw [HB.out]; exact hb2.out) level)
  obtain ⟨d, hd⟩ : ∃ d, L.down us level = d := ⟨_, rfl⟩
  rw [hd] at s hdlt hfs hown2
  have HDD := Lib.hid hd
  clear hd hfs
  go_wp2_with fail
  refine s.out.mono ?_
  rintro e w2 ⟨rfl, rfl⟩
  clear s q1 q2 q3 q4
  have f0 : IntKind.i64.wrap ((n : Int) - 1) = (n : Int) - 1 := by rw [IntKind.wrap_i64] <;> omega
  go_wp2_with fail
  go_loopw [8, 9] (fun t i wr => ∃ m s : Nat, m ≤ n ∧ i = .int .i64 ((m : Int) - 1) ∧ t = .int .u64 s ∧ s < 18446744073709551616 ∧ Hid (L.cur us gs d (l.drop m) = s) ∧ Hid (wr.ownsRow (B + 1) 35 1 (.slice (some ⟨B + 1, 0, none⟩) n n) n (u64Cells (L.fill us gs d l m))) ∧ Hid (Cb wr B vn vu vq vg) ∧ Hid (Below B w wr)) (fun _ i _ => (intOf i + 1).toNat)
  case atStart => exact ⟨n, d, Nat.le_refl _, rfl, rfl, hdlt, by rw [List.drop_of_length_le (Nat.le_of_eq HN.out)]; rfl, hown2, HC1, hb2⟩
  case round =>
    clear hb2 hown2 HC1 f0
    obtain ⟨m, s, hm, rfl, rfl, hs, HS, HO, HC, hbr⟩ := hrel
    by_cases hm0 : 0 < m
    · obtain ⟨j, rfl⟩ : ∃ j, m = j + 1 := ⟨m - 1, by omega⟩
      have hjn : j < n := by omega
      rw [show ((j + 1 : Nat) : Int) - 1 = (j : Int) by omega]
      have hj0 : (0 : Int) ≤ (j : Int) := by omega
      have hjI : (j : Int) < (n : Int) := by omega
      have i7 : IntKind.i64.wrap ((j : Int) - 1) = (j : Int) - 1 := by rw [IntKind.wrap_i64] <;> omega
      obtain ⟨b, off, u, rfl, -, hat⟩ := HL.out.at (j := j) (by rw [HN.out]; exact hjn)
      have HST : Hid (L.cur us gs d (l.drop j) = L.step us gs (l[j]'(by rw [HN.out]; exact hjn)) s) := by rw [← HS.out]; exact L.cur_step _
      have HFS : Hid ((L.fill us gs d l (j + 1)).set j (L.cur us gs d (l.drop j)) = L.fill us gs d l j) := L.fill_set (by rw [HN.out]; exact hjn)
      obtain ⟨o, ho⟩ : ∃ o, l[j]'(by rw [HN.out]; exact hjn) = o := ⟨_, rfl⟩
      rw [ho] at hat HST
      have HAt := Lib.hid hat
      have HF1 := Lib.hid (fun W (hW : Below w.heap.size w W) => HF.out W hW o u s hs)
      have hstl := L.step_lt (us := us) (gs := gs) (o := o) hs
      clear ho hat
      obtain ⟨o0, o1, o2, o3, o4, o5, o6, o7, o8, o9, k⟩ := o
      have hdl := L.down_lt us o1
      cases hfl : L.flows gs ⟨o0, o1, o2, o3, o4, o5, o6, o7, o8, o9, k⟩ s with
      | true =>
        rw [hfl] at HF1
        have HST2 : Hid (L.cur us gs d (l.drop j) = s ||| L.down us o1) := by unfold Hid; rw [HST.out]; unfold L.step; rw [hfl]; rfl
        have hsl : (s ||| L.down us o1) < 18446744073709551616 := Nat.or_lt_two_pow (n := 64) hs hdl
        have HDx := Lib.hid (fun W (hW : Below w.heap.size w W) => HD.out W hW o1)
        have HUx := Lib.hid (fun W => HUN.out W s (L.down us o1) hs hdl)
        obtain ⟨x, hx⟩ : ∃ x, L.down us o1 = x := ⟨_, rfl⟩
        rw [hx] at HST2 hsl HDx HUx hdl
        obtain ⟨y, hy⟩ : ∃ y, s ||| x = y := ⟨_, rfl⟩
        rw [hy] at HST2 hsl HUx
        clear hfl HST hstl hx hy
        go_wp2_with fail
        refine wp_region_mix ext_grow [(0, false), (1, false), (2, false), (3, false), (4, false), (5, false), (6, false), (7, false)] (by kernel_rfl) (by kernel_rfl) ?_
        have HO0 : Hid (wr.drew.ownsRow (B + 1) 35 1 (.slice (some ⟨B + 1, 0, none⟩) n n) n (u64Cells (L.fill us gs d l (j + 1)))) := HO.out.drew
        have HC0 : Hid (Cb wr.drew B vn vu vq vg) := HC.out
        have hb0 : Hid (Below B w wr.drew) := hbr.out.drew
        clear HO HC hbr
        generalize wr.drew = w0 at *
        have hbx : ∀ x : Later w0, Below w.heap.size w x.1 := fun x => below_next (by rw [HB.out]; exact hb0.out) x.2
        have c0 : ∀ x : Later w0, x.1.cell? ⟨B, 0, none⟩ = some vn := fun x => (HC0.out.later x.2).cell.1
        have c1 : ∀ x : Later w0, x.1.cell? ⟨B, 1, none⟩ = some vu := fun x => (HC0.out.later x.2).cell.2.1
        have c2 : ∀ x : Later w0, x.1.cell? ⟨B, 2, none⟩ = some vq := fun x => (HC0.out.later x.2).cell.2.2.1
        have c3 : ∀ x : Later w0, x.1.cell? ⟨B, 3, none⟩ = some vg := fun x => (HC0.out.later x.2).cell.2.2.2
        have p0 : ∀ x : Later w0, x.1.cell? ⟨b, off + j * 11, none⟩ = some (.int .i64 o0) := fun x => (HAt.out x.1 (hbx x)).c0
        have p1 : ∀ x : Later w0, x.1.cell? ⟨b, off + j * 11 + 1, none⟩ = some (.int .i64 o1) := fun x => (HAt.out x.1 (hbx x)).c1
        have p2 : ∀ x : Later w0, x.1.cell? ⟨b, off + j * 11 + 2, none⟩ = some (.int .i64 o2) := fun x => (HAt.out x.1 (hbx x)).c2
        have p3 : ∀ x : Later w0, x.1.cell? ⟨b, off + j * 11 + 3, none⟩ = some (.int .i64 o3) := fun x => (HAt.out x.1 (hbx x)).c3
        have p4 : ∀ x : Later w0, x.1.cell? ⟨b, off + j * 11 + 4, none⟩ = some (.string (str o4)) := fun x => (HAt.out x.1 (hbx x)).c4
        have p5 : ∀ x : Later w0, x.1.cell? ⟨b, off + j * 11 + 5, none⟩ = some (.string (str o5)) := fun x => (HAt.out x.1 (hbx x)).c5
        have p6 : ∀ x : Later w0, x.1.cell? ⟨b, off + j * 11 + 6, none⟩ = some (.string (str o6)) := fun x => (HAt.out x.1 (hbx x)).c6
        have p7 : ∀ x : Later w0, x.1.cell? ⟨b, off + j * 11 + 7, none⟩ = some (.int .i64 o7) := fun x => (HAt.out x.1 (hbx x)).c7
        have p8 : ∀ x : Later w0, x.1.cell? ⟨b, off + j * 11 + 8, none⟩ = some (.int .i64 o8) := fun x => (HAt.out x.1 (hbx x)).c8
        have p9 : ∀ x : Later w0, x.1.cell? ⟨b, off + j * 11 + 9, none⟩ = some (.int .i64 o9) := fun x => (HAt.out x.1 (hbx x)).c9
        have p10 : ∀ x : Later w0, x.1.cell? ⟨b, off + j * 11 + 10, none⟩ = some (u) := fun x => (HAt.out x.1 (hbx x)).c10
        have HFy : Hid (∀ z : Later w0, Calls Tryd.prog 10 #[.agg #[vn, vu, vq, vg], .agg #[.int .i64 o0, .int .i64 o1, .int .i64 o2, .int .i64 o3, .string (str o4), .string (str o5), .string (str o6), .int .i64 o7, .int .i64 o8, .int .i64 o9, u], .int .u64 s] z.1 fun e w' => e = .returned (.bool true) ∧ Ext z.1 w') := fun z => HF1.out z.1 (hbx z)
        have HBX := Lib.hid hbx
        clear hbx
        repeat (refine mix_soft rfl (fun K hK => ?_); go_simp; (first | (refine hK _ ?_; clear hK K) | (apply Exists.intro; refine ⟨fun x => ?_, hK _ ?_⟩; (first | (go_at_call 10; with_reducible exact HFy.out x)); clear hK K)))
        refine mix_done fun w4 hx => ?_
        have HO4 := Lib.hid (ownsRow.below HO0.out hx)
        have HC4 := Lib.hid (HC0.out.later hx)
        have hb4 : Hid (Below B w w4) := by rw [← HB.out]; exact HBX.out ⟨w4, hx⟩
        clear HO0 HC0 hb0 hx c0 c1 c2 c3 p0 p1 p2 p3 p4 p5 p6 p7 p8 p9 p10 HFy HBX HF1
        go_wp2_with fail
        refine wp_region_mix ext_grow [(0, false), (1, false), (2, false), (3, false), (4, false), (5, false), (6, false), (7, false), (8, false), (9, false), (10, false)] (by kernel_rfl) (by kernel_rfl) ?_
        have HO6 : Hid (w4.drew.ownsRow (B + 1) 35 1 (.slice (some ⟨B + 1, 0, none⟩) n n) n (u64Cells (L.fill us gs d l (j + 1)))) := HO4.out.drew
        have HC6 : Hid (Cb w4.drew B vn vu vq vg) := HC4.out
        have hb6 : Hid (Below B w w4.drew) := hb4.out.drew
        clear HO4 HC4 hb4
        generalize w4.drew = w6 at *
        have hbx : ∀ x : Later w6, Below w.heap.size w x.1 := fun x => below_next (by rw [HB.out]; exact hb6.out) x.2
        have c1 : ∀ x : Later w6, x.1.cell? ⟨B, 1, none⟩ = some vu := fun x => (HC6.out.later x.2).cell.2.1
        have p1 : ∀ x : Later w6, x.1.cell? ⟨b, off + j * 11 + 1, none⟩ = some (.int .i64 o1) := fun x => (HAt.out x.1 (hbx x)).c1
        have HDy : Hid (∀ z : Later w6, Calls Tryd.prog 16 #[vu, .int .i64 o1] z.1 fun e w' => e = .returned (.int .u64 (x : Int)) ∧ Ext z.1 w') := fun z => (HDx.out z.1 (hbx z)).mono fun e w' ⟨h1, h2⟩ => ⟨h1, ext_of_eq h2⟩
        have HUy : Hid (∀ W, Calls Tryd.prog 21 #[.int .u64 s, .int .u64 x] W fun e w' => e = .returned (.int .u64 (y : Int)) ∧ Ext W w') := fun W => (HUx.out W).mono fun e w' ⟨h1, h2⟩ => ⟨h1, ext_of_eq h2⟩
        have HBX := Lib.hid hbx
        clear hbx
        repeat (refine mix_soft rfl (fun K hK => ?_); go_simp; (first | (refine hK _ ?_; clear hK K) | (apply Exists.intro; refine ⟨fun x => ?_, hK _ ?_⟩; (first | (go_at_call 16; with_reducible exact HDy.out x) | (go_at_call 21; with_reducible exact HUy.out _)); clear hK K)))
        refine mix_done fun w8 hx => ?_
        have HO8 := Lib.hid (ownsRow.below HO6.out hx)
        have HC8 := Lib.hid (HC6.out.later hx)
        have hb8 : Hid (Below B w w8) := by rw [← HB.out]; exact HBX.out ⟨w8, hx⟩
        clear HO6 HC6 hb6 hx c1 p1 HDy HUy HBX HDx HUx
        obtain ⟨v0, k0, k1⟩ := own_cell1 HO8.out hjn
        have HO9 : Hid ((w8.setCell ⟨B + 1, j, none⟩ (.int .u64 (y : Int))).ownsRow (B + 1) 35 1 (.slice (some ⟨B + 1, 0, none⟩) n n) n (u64Cells (L.fill us gs d l j))) := by
          have := own_store1 HO8.out j y
          rw [HST2.out] at HFS
          rw [HFS.out] at this
          exact this
        have HC9 : Hid (Cb (w8.setCell ⟨B + 1, j, none⟩ (.int .u64 (y : Int))) B vn vu vq vg) := HC8.out.far (p := ⟨B + 1, j, none⟩) (by simp) _
        have hb9 : Hid (Below B w (w8.setCell ⟨B + 1, j, none⟩ (.int .u64 (y : Int)))) := hb8.out.setCell (p := ⟨B + 1, j, none⟩) (by simp) _
        clear HO8 HC8 hb8 HAt
        go_wp2_with fail
        go_roundw
        case rel => exact ⟨j, y, by omega, by go_num, rfl, hsl, HST2, HO9, HC9, hb9⟩
        case measure => simp [intOf]
      | false =>
        rw [hfl] at HF1
        have HST2 : Hid (L.cur us gs d (l.drop j) = s) := by unfold Hid; rw [HST.out]; unfold L.step; rw [hfl]; rfl
        clear hfl HST hstl
        go_wp2_with fail
        refine wp_region_mix ext_grow [(0, false), (1, false), (2, false), (3, false), (4, false), (5, false), (6, false), (7, false)] (by kernel_rfl) (by kernel_rfl) ?_
        have HO0 : Hid (wr.drew.ownsRow (B + 1) 35 1 (.slice (some ⟨B + 1, 0, none⟩) n n) n (u64Cells (L.fill us gs d l (j + 1)))) := HO.out.drew
        have HC0 : Hid (Cb wr.drew B vn vu vq vg) := HC.out
        have hb0 : Hid (Below B w wr.drew) := hbr.out.drew
        clear HO HC hbr
        generalize wr.drew = w0 at *
        have hbx : ∀ x : Later w0, Below w.heap.size w x.1 := fun x => below_next (by rw [HB.out]; exact hb0.out) x.2
        have c0 : ∀ x : Later w0, x.1.cell? ⟨B, 0, none⟩ = some vn := fun x => (HC0.out.later x.2).cell.1
        have c1 : ∀ x : Later w0, x.1.cell? ⟨B, 1, none⟩ = some vu := fun x => (HC0.out.later x.2).cell.2.1
        have c2 : ∀ x : Later w0, x.1.cell? ⟨B, 2, none⟩ = some vq := fun x => (HC0.out.later x.2).cell.2.2.1
        have c3 : ∀ x : Later w0, x.1.cell? ⟨B, 3, none⟩ = some vg := fun x => (HC0.out.later x.2).cell.2.2.2
        have p0 : ∀ x : Later w0, x.1.cell? ⟨b, off + j * 11, none⟩ = some (.int .i64 o0) := fun x => (HAt.out x.1 (hbx x)).c0
        have p1 : ∀ x : Later w0, x.1.cell? ⟨b, off + j * 11 + 1, none⟩ = some (.int .i64 o1) := fun x => (HAt.out x.1 (hbx x)).c1
        have p2 : ∀ x : Later w0, x.1.cell? ⟨b, off + j * 11 + 2, none⟩ = some (.int .i64 o2) := fun x => (HAt.out x.1 (hbx x)).c2
        have p3 : ∀ x : Later w0, x.1.cell? ⟨b, off + j * 11 + 3, none⟩ = some (.int .i64 o3) := fun x => (HAt.out x.1 (hbx x)).c3
        have p4 : ∀ x : Later w0, x.1.cell? ⟨b, off + j * 11 + 4, none⟩ = some (.string (str o4)) := fun x => (HAt.out x.1 (hbx x)).c4
        have p5 : ∀ x : Later w0, x.1.cell? ⟨b, off + j * 11 + 5, none⟩ = some (.string (str o5)) := fun x => (HAt.out x.1 (hbx x)).c5
        have p6 : ∀ x : Later w0, x.1.cell? ⟨b, off + j * 11 + 6, none⟩ = some (.string (str o6)) := fun x => (HAt.out x.1 (hbx x)).c6
        have p7 : ∀ x : Later w0, x.1.cell? ⟨b, off + j * 11 + 7, none⟩ = some (.int .i64 o7) := fun x => (HAt.out x.1 (hbx x)).c7
        have p8 : ∀ x : Later w0, x.1.cell? ⟨b, off + j * 11 + 8, none⟩ = some (.int .i64 o8) := fun x => (HAt.out x.1 (hbx x)).c8
        have p9 : ∀ x : Later w0, x.1.cell? ⟨b, off + j * 11 + 9, none⟩ = some (.int .i64 o9) := fun x => (HAt.out x.1 (hbx x)).c9
        have p10 : ∀ x : Later w0, x.1.cell? ⟨b, off + j * 11 + 10, none⟩ = some (u) := fun x => (HAt.out x.1 (hbx x)).c10
        have HFy : Hid (∀ z : Later w0, Calls Tryd.prog 10 #[.agg #[vn, vu, vq, vg], .agg #[.int .i64 o0, .int .i64 o1, .int .i64 o2, .int .i64 o3, .string (str o4), .string (str o5), .string (str o6), .int .i64 o7, .int .i64 o8, .int .i64 o9, u], .int .u64 s] z.1 fun e w' => e = .returned (.bool false) ∧ Ext z.1 w') := fun z => HF1.out z.1 (hbx z)
        have HBX := Lib.hid hbx
        clear hbx
        repeat (refine mix_soft rfl (fun K hK => ?_); go_simp; (first | (refine hK _ ?_; clear hK K) | (apply Exists.intro; refine ⟨fun x => ?_, hK _ ?_⟩; (first | (go_at_call 10; with_reducible exact HFy.out x)); clear hK K)))
        refine mix_done fun w8 hx => ?_
        have HO4 := Lib.hid (ownsRow.below HO0.out hx)
        have HC4 := Lib.hid (HC0.out.later hx)
        have hb4 : Hid (Below B w w8) := by rw [← HB.out]; exact HBX.out ⟨w8, hx⟩
        clear HO0 HC0 hb0 hx c0 c1 c2 c3 p0 p1 p2 p3 p4 p5 p6 p7 p8 p9 p10 HFy HBX HF1
        have HO8 := HO4
        have HC8 := HC4
        have hb8 := hb4
        clear HO4 HC4 hb4
        obtain ⟨v0, k0, k1⟩ := own_cell1 HO8.out hjn
        have HO9 : Hid ((w8.setCell ⟨B + 1, j, none⟩ (.int .u64 (s : Int))).ownsRow (B + 1) 35 1 (.slice (some ⟨B + 1, 0, none⟩) n n) n (u64Cells (L.fill us gs d l j))) := by
          have := own_store1 HO8.out j s
          rw [HST2.out] at HFS
          rw [HFS.out] at this
          exact this
        have HC9 : Hid (Cb (w8.setCell ⟨B + 1, j, none⟩ (.int .u64 (s : Int))) B vn vu vq vg) := HC8.out.far (p := ⟨B + 1, j, none⟩) (by simp) _
        have hb9 : Hid (Below B w (w8.setCell ⟨B + 1, j, none⟩ (.int .u64 (s : Int)))) := hb8.out.setCell (p := ⟨B + 1, j, none⟩) (by simp) _
        clear HO8 HC8 hb8 HAt
        go_wp2_with fail
        go_roundw
        case rel => exact ⟨j, s, by omega, by go_num, rfl, hs, HST2, HO9, HC9, hb9⟩
        case measure => simp [intOf]
    · obtain rfl : m = 0 := by omega
      rw [show ((0 : Nat) : Int) - 1 = -1 from rfl]
      rw [L.fill_end] at HO
      go_wp2_with fail
      go_ret
      exact ⟨_, rfl, by rw [HB.out, HDD.out]; exact ownsRow.base HO.out (by omega), by rw [HB.out]; exact hbr.out⟩
end Go.Proofs.YtljpfocmnppjgaaDoor
