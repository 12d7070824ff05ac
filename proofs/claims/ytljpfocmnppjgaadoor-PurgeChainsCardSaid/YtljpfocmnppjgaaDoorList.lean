/- What lattice.List returns: the bits that are 1, rising. -/
import Derived.Test.YtljpfocmnppjgaaDoorEach
import Derived.RangeFuncBox
import Derived.Maps.AppendAt
namespace Go.Proofs.YtljpfocmnppjgaaDoor
open Go Go.RowKit Go.Shelf
attribute [local go_sem] Oper.semAt_some

def intCells (l : List Nat) : List Value := l.map fun (k : Nat) => .int .i64 (k : Int)
theorem infoI64 : (Tryd.prog.info? 3).map (fun i => (i.zero, i.size, i.bytes)) = some (some (.int .i64 0), 1, 8) := by kernel_rfl

theorem below_put {B l : Nat} {a W : World} (h : Below B a W) (hl : B ≤ l) (o : Obj) : Below B a (W.putObj l o) :=
  ⟨h.os, h.tape, h.output, by rw [show (W.putObj l o).heap.size = W.heap.size by simp [World.putObj]]; exact h.size, fun k hk => (World.putObj_heap_other (by omega)).trans (h.block k hk)⟩
theorem size_put (W : World) (l : Nat) (o : Obj) : (W.putObj l o).heap.size = W.heap.size := by simp [World.putObj]

/-- 'out = append(out, x)', out in a box ahead of the rows: what it leaves. -/
theorem box_grow {W w1 : World} {n₀ B : Nat} {t e : TypeId} {size : Nat} {v v' : Value} {k m : Nat} {xs ys : List Value} {tmp : Obj}
    (hv : W.heap[B]? = some (.cells #[v] t (0, 0))) (hte : t ≠ e) (hrow : W.ownsRow n₀ e size v k xs) (hn₀ : n₀ ≤ W.heap.size) (hB : B < n₀)
    (hown' : w1.ownsRow n₀ e size v' m ys) (hgrow : (W.alloc tmp).grownBy w1 v.ownBlock) :
    w1.heap[B]? = some (.cells #[v] t (0, 0)) ∧ (w1.setCell ⟨B, 0, none⟩ v').heap[B]? = some (.cells #[v'] t (0, 0)) ∧ (w1.setCell ⟨B, 0, none⟩ v').ownsRow n₀ e size v' m ys ∧ KeepsOthers W (w1.setCell ⟨B, 0, none⟩ v') ∧
      Below B W (w1.setCell ⟨B, 0, none⟩ v') ∧ ∀ j, j < W.heap.size → j < n₀ → j ≠ B → (w1.setCell ⟨B, 0, none⟩ v').heap[j]? = W.heap[j]? := by
  have hbx : Boxed W B t v := hv
  obtain ⟨h1, h2, h3, h4, h5⟩ := hbx.appended hte (ownsRow.base hrow (Nat.le_of_lt hB)) (by omega) (Nat.le_refl _) (ownsRow.base hown' (Nat.le_of_lt hB)) hgrow
  refine ⟨h1, h2, ownsRow_setCell_below hown' hB _, h4, h5, fun j hj hjn hjB => ?_⟩
  have hne : some j ≠ v.ownBlock := fun h => by have := ownBlock_ge hrow j h.symm; omega
  rw [show (w1.setCell ⟨B, 0, none⟩ v').heap[j]? = w1.heap[j]? from Below.heap_setCell _ _ _ _ (by simpa using hjB), hgrow.block j (by simp; omega) hne, Below.heap_alloc _ _ _ hj]
theorem boxKept_trans {b : Nat} {A B C : World} (h : boxKept b A B) (k : boxKept b B C) : boxKept b A C := ⟨k.1.trans h.1, fun t => k.2 (h.2 t)⟩

set_option maxHeartbeats 1000000 in
theorem list_in (n x : Nat) (hx : x < 18446744073709551616) (w : World) (ht : DTab w) :
    CallsIn Fence.wide (n + 3) Tryd.prog 29 #[.int .u64 x] w fun e w' => ∃ v, e = .returned v ∧ w'.ownsRow w.heap.size 3 1 v (bitsOf x).length (intCells (bitsOf x)) ∧ Below w.heap.size w w' := by
  refine callsIn_of_wp_marks Tryd.func29 rfl trivial ?_ rfl
  simp only [Tryd.ntmps29, List.size_toArray, List.length_cons, List.length_nil, Nat.reduceAdd, Nat.reduceSub, Array.replicate_succ, Array.replicate_zero, List.push_toArray, List.append_toArray, List.nil_append, List.cons_append]
  gi_wp2_with fail
  refine ⟨trivial, ?_⟩
  refine (callsIn_wide.2 (each_any x _)).mono ?_
  rintro e w' ⟨rfl, rfl⟩
  gi_wp2_with fail
  obtain ⟨W0, hW0⟩ : ∃ W0, (w.alloc (.cells #[.slice none 0 0] 24)).alloc (.cells #[.int .u64 x] 35) = W0 := ⟨_, rfl⟩
  have hsz : W0.heap.size = w.heap.size + 2 := by rw [← hW0]; simp
  have hb0 : W0.heap[w.heap.size]? = some (.cells #[.slice none 0 0] 24 (0, 0)) := by
    rw [← hW0]; exact (Below.heap_alloc _ _ _ (by simp)).trans (World.alloc_heap_new w _)
  have hbx : BoxU W0 (w.heap.size + 1) x := by
    rw [← hW0]
    have := World.alloc_heap_new (w.alloc (.cells #[.slice none 0 0] 24)) (.cells #[.int .u64 x] 35)
    rwa [World.size_alloc] at this
  have hbel : Below w.heap.size w W0 := by rw [← hW0]; exact ((Below.refl _ w).alloc (Nat.le_refl _) _).alloc (by simp) _
  rw [hW0]
  clear hW0
  refine range_outer rfl (by omega) (gf := 53) (lb := #[.pointer (some ⟨w.heap.size + 1, 0, none⟩)]) rfl trivial (enters_of Tryd.func53 (by kernel_rfl) rfl)
    (each1_in (n + 3 - 1) x (w.heap.size + 1) hx) (fun _ => rfl)
    ?hTo (fun h k => ⟨k.1.trans h.1, fun t => k.2 (h.2 t)⟩) ?hKb
    (fun pre W => ∃ v, W.heap[w.heap.size]? = some (.cells #[v] 24 (0, 0)) ∧ W.ownsRow (w.heap.size + 2) 3 1 v pre.length (intCells pre) ∧ Below w.heap.size w W) (fun _ _ _ => False)
    ?hIT ?hIb (fun _ _ _ _ _ _ _ h => h.elim) ?h0 ?hstart ?hround ?hdone (fun _ _ _ _ h => h.elim)
  case hTo =>
    rintro A B k o ⟨y, rfl⟩ hk ho
    exact (KeepsOthers.setCell A ⟨w.heap.size + 1, 0, none⟩ _).same k o hk ho
  case hKb =>
    intro W l o hl
    refine ⟨World.putObj_heap_other (by omega), fun t => t.same (World.putObj_heap_other (by have := ht.lt; omega))⟩
  case hIT =>
    rintro s A B ⟨v, h1, h2, h3⟩ ⟨y, rfl⟩
    exact ⟨v, (Below.heap_setCell _ _ _ _ (by simp)).trans h1, ownsRow_setCell_below h2 (by simp) _, h3.setCell (by simp) _⟩
  case hIb =>
    rintro s W l o o' hl ⟨v, h1, h2, h3⟩ hlo ho
    have hne : w.heap.size ≠ l := by rintro rfl; rw [h1] at hlo; cases hlo; cases ho
    exact ⟨v, (World.putObj_heap_other hne).trans h1, ownsRow_putObj h2 o' hlo ho, below_put h3 (by omega) _⟩
  case h0 =>
    intro r
    refine ⟨_, (Below.heap_alloc _ _ _ (by simp; omega)).trans ((Below.heap_alloc _ _ _ (by omega)).trans hb0), ⟨rfl, .inl ⟨rfl, rfl⟩⟩, ((hbel.alloc hbel.size _).alloc (by have := hbel.size; simp; omega) _)⟩
  case hstart =>
    intro r
    refine ⟨(Below.heap_alloc _ _ _ (by simp; omega)).trans ((Below.heap_alloc _ _ _ (by omega)).trans hbx), ?_⟩
    refine ht.same ?_
    have := ht.lt
    exact (((hbel.alloc hbel.size _).alloc (by have := hbel.size; simp; omega) _).block 0 this)
  case hround =>
    rintro l pre k W hl ⟨r, hlr⟩ ⟨v, hv, hrow, hbw⟩ ⟨rest, hrest⟩
    have hlen : pre.length + 1 ≤ 64 := by have := bitsOf_length x; rw [hrest] at this; simp at this; omega
    gi_wp2_with fail
    refine ⟨KeepsFrom.refl _ _, ?_⟩
    intro r'
    have hne : w.heap.size ≠ l := by rintro rfl; rw [hv] at hlr; cases hlr
    obtain ⟨W2, hW2⟩ : ∃ W2, W.putObj l (.loop r') = W2 := ⟨_, rfl⟩
    have hv2 : W2.heap[w.heap.size]? = some (.cells #[v] 24 (0, 0)) := by rw [← hW2]; exact (World.putObj_heap_other hne).trans hv
    have hrow2 : W2.ownsRow (w.heap.size + 2) 3 1 v pre.length (intCells pre) := by rw [← hW2]; exact ownsRow_putObj hrow _ hlr rfl
    have hbw2 : Below w.heap.size w W2 := by rw [← hW2]; exact below_put hbw (by omega) _
    have hk2 : boxKept (w.heap.size + 1) W W2 := by
      rw [← hW2]
      exact ⟨World.putObj_heap_other (by omega), fun t => t.same (World.putObj_heap_other (by have := ht.lt; omega))⟩
    have hsz2 : w.heap.size + 2 ≤ W2.heap.size := by rw [← hW2, size_put]; have := (Array.getElem?_eq_some_iff.1 hlr).1; omega
    rw [hW2]
    clear hW2
    obtain ⟨i0, hi, hz0, hz1, hz2⟩ := info_parts infoI64
    have hc := cell_of_one hv2
    have hf := free_of_one hv2
    clear hbw hrow hv hlr hb0 hbx hbel hrest
    gi_wp2_with (gi_at_builtin; refine wpListIn_append_own _ rfl _ _ 24 rfl (w.heap.size + 2) 3 i0 (.int .i64 0) 1 8 Tryd.underlying24 hi hz0 hz1 hz2 rfl (by decide) _ _ _ rfl (hrow2.alloc _) ⟨W2.heap.size, 0, none⟩ 1 1 [.int .i64 (k : Int)] rfl rfl (cell_one_new _ _ _) (by simp [Value.oneCell']) (by unfold maxLen; omega) (by omega) (by simp; omega) ?_; intro v' w1 hown' hgrow hnil'; obtain ⟨g, cap, rfl⟩ := ownsRow_succ hown'; obtain ⟨hb1, ha1, ha2, ha3, ha4, ha5⟩ := box_grow hv2 (by decide) hrow2 hsz2 (by omega) hown' hgrow; have hc1 := cell_of_one hb1; have hf1 := free_of_one hb1)
    refine ⟨ha3.from _, boxKept_trans hk2 ⟨ha5 _ (by omega) (by omega) (by omega), fun t => t.same (ha5 _ t.lt (by have := ht.lt; omega) (by have := ht.lt; omega))⟩, _, ha1, ?_, hbw2.trans (ha4.mono (by omega))⟩
    rw [List.length_append]
    simpa [intCells] using ha2
  case hdone =>
    rintro xs W rfl ⟨v, hv, hrow, hbw⟩ hD
    have hc := cell_of_one hv
    clear hb0 hbx hbel
    gi_wp2_with fail
    refine ⟨by simp, .inl ⟨_, _, rfl, run_takeDeferred hD, ?_⟩⟩
    exact ⟨_, results_tmp rfl _ _ _, v, rfl, ownsRow.base (ownsRow_putObj hrow _ hD rfl) (by omega), below_put hbw (by omega) _⟩

theorem list_any (x : Nat) (hx : x < 18446744073709551616) (w : World) (ht : DTab w) :
    Calls Tryd.prog 29 #[.int .u64 x] w fun e w' => ∃ v, e = .returned v ∧ w'.ownsRow w.heap.size 3 1 v (bitsOf x).length (intCells (bitsOf x)) ∧ Below w.heap.size w w' :=
  callsIn_wide.1 (list_in 0 x hx w ht)
end Go.Proofs.YtljpfocmnppjgaaDoor
