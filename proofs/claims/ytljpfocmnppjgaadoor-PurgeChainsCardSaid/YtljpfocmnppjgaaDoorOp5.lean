/- What purge.Sets returns. -/
import Derived.Test.YtljpfocmnppjgaaDoorOp4
import Derived.RangeFuncBox
namespace Go.Proofs.YtljpfocmnppjgaaDoor
open Go Go.RowKit Go.Shelf
attribute [local go_sem] Oper.semAt_some

theorem keepsFrom_of_below {B : Nat} {W W' : World} (h : Below W.heap.size W W') : KeepsFrom B W W' :=
  ⟨h.size, fun k _ _ hk _ => (h.block k (Array.getElem?_eq_some_iff.1 hk).1).trans hk⟩
theorem heap_put {W : World} {l k : Nat} {o : Obj} (h : k ≠ l) : (W.putObj l o).heap[k]? = W.heap[k]? := World.putObj_heap_other h
/-- 'make([]T, n)' within a fence. -/
theorem wpListIn_make_sl {F : Fence} {n : Nat} {P : Program} {w : World} {ops : Array Oper} {rest : List Oper} {o : Oper} {a : Act} {Q : Exit → Act → World → Prop}
    (hg : o.guard = none) (l c : Operand) (t : TypeId) (hop : o.op = Op.makeSlice t l c)
    (base : Nat) (e : TypeId) (z : Value) (size bytes : Nat) (ht : P.underlying t = some (.slice e)) (hinfo : (P.info? e).map (fun i => (i.zero, i.size, i.bytes)) = some (some z, size, bytes))
    (kl kc : IntKind) (m : Nat) (hl : a.eval l = .int kl m) (hc : a.eval c = .int kc m) (b2 : bytes * m ≤ 281474976710656) (b3 : m ≤ maxLen) (b4 : base ≤ w.heap.size)
    (hK : ∀ w', w'.ownsRow base e size (.slice (some ⟨w.heap.size, 0, none⟩) m m) m (madeCells z.cells (m * size)).toList → w.grownBy w' none → wpListIn F n P ops Q rest (a.put o.dst (.slice (some ⟨w.heap.size, 0, none⟩) m m)) w') :
    wpListIn F n P ops Q (o :: rest) a w := by
  obtain ⟨i, hi, hz, h4, h5⟩ := info_parts hinfo
  refine wpListIn_plain hg fun K hK' => ?_
  obtain ⟨w', hrun, r1, r2⟩ := run_make_full (P := P) w base t e i z size ht hi hz h4 kl kc m (by rw [h5]; exact b2) b3 b4
  unfold Oper.wpIn
  refine ⟨?_, ?_⟩
  · simp [Oper.about, hop]
  · rw [Oper.semAt_plain F _ _ (by rw [hop]; intro c hc'; cases hc')]
    simp [execOp, hop, hl, hc, hrun, Result.andThen]
    exact hK' _ _ (hK w' r1 r2)
theorem ownsRow.same {w w' : World} {base t sz n g len cap : Nat} {cs : List Value} (h : w.ownsRow base t sz (.slice (some ⟨g, 0, none⟩) len cap) n cs) (hb : w'.heap[g]? = w.heap[g]?) : w'.ownsRow base t sz (.slice (some ⟨g, 0, none⟩) len cap) n cs := by
  refine ⟨h.1, ?_⟩
  rcases h.2 with h2 | ⟨g', cap', cur, e, hg, hh, r⟩
  · exact .inl h2
  · cases e
    exact .inr ⟨_, _, cur, rfl, hg, by rw [hb]; exact hh, r⟩

/-- What the rounds of purge.Sets find and leave. B: the configuration's block, behind it the row; C: the blocks of the row's slice, of the labels, of the operations. -/
structure SetsAt (w : World) (B C : Nat) (vn vu vq vg : Value) (vl : Value) (us : List Nat) (gs : List Gr) (d : Nat) (l : List Opr) (n m : Nat) (W : World) : Prop where
  conf : Cb W B vn vu vq vg
  row : W.ownsRow (B + 1) 35 1 (.slice (some ⟨B + 1, 0, none⟩) n n) n (u64Cells (L.fill us gs d l m))
  out : W.heap[C]? = some (.cells #[.slice (some ⟨B + 1, 0, none⟩) n n] 23 (0, 0))
  cur : BoxU W (C + 1) (L.cur us gs d (l.drop m))
  src : W.heap[C + 2]? = some (.cells #[vl] 28 (0, 0))
  below : Below B w W
theorem SetsAt.later {w : World} {B C : Nat} {vn vu vq vg vl : Value} {us : List Nat} {gs : List Gr} {d : Nat} {l : List Opr} {n m : Nat} {W W' : World} (h : SetsAt w B C vn vu vq vg vl us gs d l n m W) (hb : Below (C + 3) W W') (hBC : B + 1 < C) : SetsAt w B C vn vu vq vg vl us gs d l n m W' :=
  ⟨(hb.block B (by omega)).trans h.conf, ownsRow.same h.row (hb.block _ (by omega)), (hb.block _ (by omega)).trans h.out, (hb.block _ (by omega)).trans h.cur, (hb.block _ (by omega)).trans h.src, h.below.trans (hb.mono (by omega))⟩
/-- A round's stores. -/
theorem SetsAt.stored {w : World} {B C : Nat} {vn vu vq vg vl : Value} {us : List Nat} {gs : List Gr} {d : Nat} {l : List Opr} {n j y : Nat} {W : World} (h : SetsAt w B C vn vu vq vg vl us gs d l n (j + 1) W) (hBC : B + 1 < C) (hj : j < l.length) (hy : L.cur us gs d (l.drop j) = y) :
    SetsAt w B C vn vu vq vg vl us gs d l n j ((W.setCell ⟨C + 1, 0, none⟩ (.int .u64 (y : Int))).setCell ⟨B + 1, j, none⟩ (.int .u64 (y : Int))) := by
  have hr : (W.setCell ⟨C + 1, 0, none⟩ (.int .u64 (y : Int))).ownsRow (B + 1) 35 1 (.slice (some ⟨B + 1, 0, none⟩) n n) n (u64Cells (L.fill us gs d l (j + 1))) := ownsRow.same h.row (Below.heap_setCell W ⟨C + 1, 0, none⟩ _ _ (by simp; omega))
  have hr2 := own_store1 hr j y
  have hf := L.fill_set (us := us) (gs := gs) (d := d) hj
  rw [hy] at hf
  rw [hf] at hr2
  have far : ∀ k, k ≠ C + 1 → k ≠ B + 1 → ((W.setCell ⟨C + 1, 0, none⟩ (.int .u64 (y : Int))).setCell ⟨B + 1, j, none⟩ (.int .u64 (y : Int))).heap[k]? = W.heap[k]? := fun k h1 h2 => (Below.heap_setCell _ ⟨B + 1, j, none⟩ _ _ (by simpa using h2)).trans (Below.heap_setCell _ ⟨C + 1, 0, none⟩ _ _ (by simpa using h1))
  refine ⟨(far B (by omega) (by omega)).trans h.conf, hr2, (far _ (by omega) (by omega)).trans h.out, ?_, (far _ (by omega) (by omega)).trans h.src, (h.below.setCell (p := ⟨C + 1, 0, none⟩) (by simp; omega) _).setCell (p := ⟨B + 1, j, none⟩) (by simp) _⟩
  rw [hy]
  exact (Below.heap_setCell _ ⟨B + 1, j, none⟩ _ _ (by simp; omega)).trans (h.cur.put y)
/-- The same, where the labels stay as they are. -/
theorem SetsAt.kept {w : World} {B C : Nat} {vn vu vq vg vl : Value} {us : List Nat} {gs : List Gr} {d : Nat} {l : List Opr} {n j y : Nat} {W : World} (h : SetsAt w B C vn vu vq vg vl us gs d l n (j + 1) W) (hBC : B + 1 < C) (hj : j < l.length) (hy : L.cur us gs d (l.drop j) = y) (hy2 : L.cur us gs d (l.drop (j + 1)) = y) :
    SetsAt w B C vn vu vq vg vl us gs d l n j (W.setCell ⟨B + 1, j, none⟩ (.int .u64 (y : Int))) := by
  have hr2 := own_store1 h.row j y
  have hf := L.fill_set (us := us) (gs := gs) (d := d) hj
  rw [hy] at hf
  rw [hf] at hr2
  have far : ∀ k, k ≠ B + 1 → (W.setCell ⟨B + 1, j, none⟩ (.int .u64 (y : Int))).heap[k]? = W.heap[k]? := fun k h2 => Below.heap_setCell _ ⟨B + 1, j, none⟩ _ _ (by simpa using h2)
  have hs := h.cur
  rw [hy2] at hs
  refine ⟨(far B (by omega)).trans h.conf, hr2, (far _ (by omega)).trans h.out, ?_, (far _ (by omega)).trans h.src, h.below.setCell (p := ⟨B + 1, j, none⟩) (by simp) _⟩
  rw [hy]
  exact (far _ (by omega)).trans hs

set_option maxRecDepth 4000 in
set_option maxHeartbeats 4000000 in
theorem sets_in (n0 : Nat) (vn vu vq vg vl : Value) (us : List Nat) (gs : List Gr) (l : List Opr) (level : Int) (w : World) (hu : Us w vu us) (hU : U64s us) (hg : Gs w vg gs) (hl : Os w vl l) (hlen : l.length ≤ 1000000) :
    CallsIn Fence.wide (n0 + 6) Tryd.prog 12 #[cfv vn vu vq vg, vl, .int .i64 level] w fun e w' => ∃ v', e = .returned v' ∧ w'.ownsRow w.heap.size 35 1 v' l.length (u64Cells (L.sets us gs (L.down us level) l)) ∧ Below w.heap.size w w' := by
  obtain ⟨ao, cap, rfl, -⟩ := hl.shape
  have HL := Lib.hid hl
  have HF := Lib.hid (fun W (hW : Below w.heap.size w W) (o : Opr) (u : Value) (s : Nat) (hs : s < 18446744073709551616) => flows_any vn vu vq vg gs o u s W (Three.Ss.below hg hW) hs)
  have HD := Lib.hid (fun W (hW : Below w.heap.size w W) (a : Int) => down_any vu us a W (hu.below hW) hU)
  have hdlt := L.down_lt us level
  obtain ⟨n, hn⟩ : ∃ n, l.length = n := ⟨_, rfl⟩
  rw [hn] at HL hlen ⊢
  have HN := Lib.hid hn
  have hfs : Hid (L.fill us gs (L.down us level) l n = List.replicate n 0) := by rw [← hn]; exact L.fill_start _ _ _ _
  have HCB := Lib.hid (Cb.new w vn vu vq vg)
  have hb1 : Hid (Below w.heap.size w (w.alloc (.cells #[vn, vu, vq, vg] 27))) := (Below.refl _ _).alloc (Nat.le_refl _) _
  have hs1 : (w.alloc (.cells #[vn, vu, vq, vg] 27)).heap.size = w.heap.size + 1 := by simp
  clear hl hg hu hU hn
  refine callsIn_of_wp_marks Tryd.func12 rfl trivial ?_ rfl
  simp only [Tryd.ntmps12, List.size_toArray, List.length_cons, List.length_nil, Nat.reduceAdd, Nat.reduceSub, Array.replicate_succ, Array.replicate_zero, List.push_toArray, List.append_toArray, List.nil_append, List.cons_append]
  gi_wp2_with (gi_at_make; refine wpListIn_make_sl rfl _ _ 23 rfl (w.heap.size + 1) 35 (.int .u64 0) 1 8 Tryd.underlying23 infoU64 _ _ n rfl rfl (by omega) (by unfold maxLen; omega) (by rw [hs1]; exact Nat.le_refl _) ?_; intro w1 hown hgrow; have q1 := ((HCB.out.grown hgrow (by simp)).later ((Below.refl _ w1).alloc (Nat.le_refl _) (.cells #[.slice (some ⟨w.heap.size + 1, 0, none⟩) n n] 23))).cell.2.1)
  obtain ⟨B, hB⟩ : ∃ B, w.heap.size = B := ⟨_, rfl⟩
  have HB := Lib.hid hB
  rw [hs1] at hown
  have HC1 := Lib.hid (HCB.out.grown hgrow (by simp))
  have hb2 : Hid (Below w.heap.size w w1) := hb1.out.grown hgrow hb1.out.size (fun k hk => by cases hk)
  have hown2 : Hid (w1.ownsRow (w.heap.size + 1) 35 1 (.slice (some ⟨w.heap.size + 1, 0, none⟩) n n) n (u64Cells (L.fill us gs (L.down us level) l n))) := by
    rw [show (Value.int IntKind.u64 0).cells = #[.int .u64 0] from rfl, toList_madeCells_one] at hown
    unfold Hid
    rw [hfs.out, u64Cells_zeros]
    simpa using hown
  have hlt1 : B + 1 < w1.heap.size := by
    rw [← hB]
    exact (hown.lt _ rfl).2
  obtain ⟨C, hC⟩ : ∃ C, w1.heap.size = C := ⟨_, rfl⟩
  have hb3 : Hid (Below w.heap.size w (w1.alloc (.cells #[.slice (some ⟨w.heap.size + 1, 0, none⟩) n n] 23))) := hb2.out.alloc hb2.out.size _
  have s := Lib.hid (HD.out _ hb3.out level)
  obtain ⟨d, hd⟩ : ∃ d, L.down us level = d := ⟨_, rfl⟩
  have HDD := Lib.hid hd
  rw [hd] at s hdlt hfs hown2
  rw [hB] at hown2 s HC1 hb3
  try rw [hB]
  try rw [hC]
  rw [hC] at hlt1
  clear hown hgrow HCB hb1 hs1 hb2
  refine ⟨trivial, ?_⟩
  refine (callsIn_wide.2 s.out).mono ?_
  rintro e w2 ⟨rfl, rfl⟩
  clear s q1
  gi_wp2_with fail
  refine ⟨trivial, ?_⟩
  refine (callsIn_wide.2 (backward_any ao n cap _)).mono ?_
  rintro e w' ⟨rfl, rfl⟩
  gi_wp2_with fail
  obtain ⟨W0, hW0⟩ : ∃ W0, ((w1.alloc (.cells #[.slice (some ⟨B + 1, 0, none⟩) n n] 23)).alloc (.cells #[.int .u64 d] 35)).alloc (.cells #[.slice ao n cap] 28) = W0 := ⟨_, rfl⟩
  have hsz : W0.heap.size = C + 3 := by rw [← hW0]; simp [hC]
  have hbw : Below C w1 W0 := by rw [← hW0]; exact ((((Below.refl _ w1).alloc (Nat.le_of_eq hC.symm) _).alloc (by simp; omega) _).alloc (by simp; omega) _)
  have hb0 : W0.heap[C]? = some (.cells #[.slice (some ⟨B + 1, 0, none⟩) n n] 23 (0, 0)) := by
    rw [← hW0, ← hC]; exact (Below.heap_alloc _ _ _ (by simp; omega)).trans ((Below.heap_alloc _ _ _ (by simp)).trans (World.alloc_heap_new w1 _))
  have hb1 : W0.heap[C + 1]? = some (.cells #[.int .u64 d] 35 (0, 0)) := by
    rw [← hW0]
    have := World.alloc_heap_new (w1.alloc (.cells #[.slice (some ⟨B + 1, 0, none⟩) n n] 23)) (.cells #[.int .u64 d] 35)
    rw [World.size_alloc, hC] at this
    exact (Below.heap_alloc _ _ _ (by simp; omega)).trans this
  have hb2 : W0.heap[C + 2]? = some (.cells #[.slice ao n cap] 28 (0, 0)) := by
    rw [← hW0]
    have := World.alloc_heap_new ((w1.alloc (.cells #[.slice (some ⟨B + 1, 0, none⟩) n n] 23)).alloc (.cells #[.int .u64 d] 35)) (.cells #[.slice ao n cap] 28)
    rw [World.size_alloc, World.size_alloc, hC] at this
    exact this
  have hbel : Below w.heap.size w W0 := by
    rw [← hW0, HB.out]
    exact (hb3.out.alloc (by have := hb3.out.size; omega) _).alloc (by have := hb3.out.size; simp at this ⊢; omega) _
  try rw [hC]
  rw [hW0]
  clear hW0
  have hS0 : Hid (SetsAt w B C vn vu vq vg (.slice ao n cap) us gs d l n n W0) :=
    ⟨(hbw.block B (by omega)).trans HC1.out, ownsRow.same hown2.out (hbw.block _ (by omega)), hb0, by unfold BoxU; rw [List.drop_of_length_le (Nat.le_of_eq HN.out)]; exact hb1, hb2, by rw [← HB.out]; exact hbel⟩
  clear hb0 hb1 hbw HC1 hown2 hb3
  have hdN := Lib.hid hdlt
  clear hdlt
  refine range_outer rfl (by omega) (gf := 42) (lb := #[.pointer (some ⟨C + 2, 0, none⟩)]) rfl trivial (enters_of Tryd.func42 (by kernel_rfl) rfl)
    (backward1_in (n0 + 6 - 1) (C + 2) w ao n cap l HL.out HN.out hlen) (fun _ => rfl)
    ?hTo (fun h k x => k (h x)) ?hKb
    (fun pre W => ∃ m, m + pre.length = n ∧ SetsAt w B C vn vu vq vg (.slice ao n cap) us gs d l n m W) (fun _ _ _ => False)
    ?hIT ?hIb (fun _ _ _ _ _ _ _ h => h.elim) ?h0 ?hstart ?hround ?hdone (fun _ _ _ _ h => h.elim)
  case hTo =>
    rintro A D k o rfl hk ho
    exact hk
  case hKb =>
    rintro W l o hl ⟨h1, h2⟩
    exact ⟨(heap_put (by omega)).trans h1, below_put h2 (by rw [HB.out]; omega) _⟩
  case hIT =>
    rintro s A D h rfl
    exact h
  case hIb =>
    rintro s W l o o' hl ⟨m, hm, h⟩ hlo ho
    exact ⟨m, hm, h.later (below_put (Below.refl _ _) (by omega) _) hlt1⟩
  case h0 =>
    intro r
    exact ⟨n, rfl, hS0.out.later (((Below.refl _ W0).alloc (by omega) _).alloc (by simp; omega) _) hlt1⟩
  case hstart =>
    intro r
    exact ⟨(Below.heap_alloc _ _ _ (by simp; omega)).trans ((Below.heap_alloc _ _ _ (by omega)).trans hb2), (hbel.alloc hbel.size _).alloc (by have := hbel.size; simp; omega) _⟩
  case hround =>
    rintro lp pre ⟨i, r⟩ W hlp ⟨r', hlr⟩ ⟨m, hm, hS⟩ ⟨hi, o, ua, uq, uc, ho, hr⟩
    simp only [] at hi ho hr
    subst hr
    obtain rfl : m = i + 1 := by omega
    have HS := Lib.hid hS
    have hlW := (Array.getElem?_eq_some_iff.1 hlr).1
    clear hS hb2 hbel hS0
    obtain ⟨o0, o1, o2, o3, o4, o5, o6, o7, o8, o9, k⟩ := o
    simp only [Op11.put]
    have hil : i < l.length := by rw [HN.out]; omega
    have HCU : Hid (L.cur us gs d (l.drop i) = L.step us gs ⟨o0, o1, o2, o3, o4, o5, o6, o7, o8, o9, k⟩ (L.cur us gs d (l.drop (i + 1)))) := by
      have h1 := L.cur_step (us := us) (gs := gs) (d := d) hil
      have h2 : l[i] = ⟨o0, o1, o2, o3, o4, o5, o6, o7, o8, o9, k⟩ := by
        have := List.getElem?_eq_getElem hil
        rw [ho] at this
        exact (Option.some.inj this).symm
      rw [h2] at h1
      exact h1
    have hslt := L.cur_lt (us := us) (gs := gs) hdN.out (l.drop (i + 1))
    obtain ⟨s, hs⟩ : ∃ s, L.cur us gs d (l.drop (i + 1)) = s := ⟨_, rfl⟩
    rw [hs] at HCU hslt
    have HSS := Lib.hid hs
    have HIL := Lib.hid hil
    clear hs ho hil
    gi_wp2_with fail
    refine ⟨keepsFrom_of_below ((Below.refl _ W).alloc (Nat.le_refl _) _), ?_⟩
    intro r2
    obtain ⟨W2, hW2⟩ : ∃ W2, (W.alloc (.cells #[.int .i64 o0, .int .i64 o1, .int .i64 o2, .int .i64 o3, .string (str o4), .string (str o5), .string (str o6), .int .i64 o7, .int .i64 o8, .int .i64 o9, .slice ua uq uc] 34)).putObj lp (.loop r2) = W2 := ⟨_, rfl⟩
    have hB2 : Below lp W W2 := by rw [← hW2]; exact below_put ((Below.refl _ W).alloc (Nat.le_of_lt hlW) _) (Nat.le_refl _) _
    have hz2 : W2.heap.size = W.heap.size + 1 := by rw [← hW2, size_put]; simp
    have hp2 : W2.heap[W.heap.size]? = some (.cells #[.int .i64 o0, .int .i64 o1, .int .i64 o2, .int .i64 o3, .string (str o4), .string (str o5), .string (str o6), .int .i64 o7, .int .i64 o8, .int .i64 o9, .slice ua uq uc] 34 (0, 0)) := by rw [← hW2]; exact (heap_put (by omega)).trans (World.alloc_heap_new W _)
    have hS2 := Lib.hid (HS.out.later (hB2.mono (by omega)) hlt1)
    rw [hW2]
    clear hW2 hB2 HS hlr
    obtain ⟨p, hp⟩ : ∃ p, W.heap.size = p := ⟨_, rfl⟩
    rw [hp] at hz2 hp2 hlW
    try rw [hp]
    have HP := Lib.hid hp2
    have hw2 : Hid (Below w.heap.size w W2) := by rw [HB.out]; exact hS2.out.below
    obtain ⟨q0, q1, q2, q3⟩ := hS2.out.conf.cell
    have r0 := cell_of_row W2 p 0 _ _ (0, 0) hp2
    have r1 := cell_of_row W2 p 1 _ _ (0, 0) hp2
    have r2 := cell_of_row W2 p 2 _ _ (0, 0) hp2
    have r3 := cell_of_row W2 p 3 _ _ (0, 0) hp2
    have r4 := cell_of_row W2 p 4 _ _ (0, 0) hp2
    have r5 := cell_of_row W2 p 5 _ _ (0, 0) hp2
    have r6 := cell_of_row W2 p 6 _ _ (0, 0) hp2
    have r7 := cell_of_row W2 p 7 _ _ (0, 0) hp2
    have r8 := cell_of_row W2 p 8 _ _ (0, 0) hp2
    have r9 := cell_of_row W2 p 9 _ _ (0, 0) hp2
    have r10 := cell_of_row W2 p 10 _ _ (0, 0) hp2
    have cc := cell_of_one hS2.out.cur
    rw [HSS.out] at cc
    have HF1 := Lib.hid (HF.out W2 hw2.out ⟨o0, o1, o2, o3, o4, o5, o6, o7, o8, o9, k⟩ (.slice ua uq uc) s hslt)
    cases hfl : L.flows gs ⟨o0, o1, o2, o3, o4, o5, o6, o7, o8, o9, k⟩ s with
    | true =>
      rw [hfl] at HF1
      have hstep : L.step us gs ⟨o0, o1, o2, o3, o4, o5, o6, o7, o8, o9, k⟩ s = s ||| L.down us o1 := by unfold L.step; rw [hfl]; rfl
      have hdl := L.down_lt us o1
      have hor := u64_or_nat s (L.down us o1) hslt hdl
      have HDx := Lib.hid (fun W (hW : Below w.heap.size w W) => HD.out W hW o1)
      rw [hstep] at HCU
      obtain ⟨x, hx⟩ : ∃ x, L.down us o1 = x := ⟨_, rfl⟩
      rw [hx] at hor HDx HCU
      obtain ⟨y, hy⟩ : ∃ y, s ||| x = y := ⟨_, rfl⟩
      rw [hy] at hor HCU
      clear hfl hstep hx hy hdl
      gi_wp2_with fail
      refine ⟨trivial, ?_⟩
      refine ((callsIn_wide.2 HF1.out).inRound lp).mono ?_
      rintro e W3 ⟨rfl, hb3⟩
      have hS3 : Hid (SetsAt w B C vn vu vq vg (.slice ao n cap) us gs d l n (i + 1) W3) := hS2.out.later (hb3.mono (by omega)) hlt1
      have hp3 := (hb3.block p (by omega)).trans hp2
      have hK3 : Hid (KeepsFrom W0.heap.size W2 W3) := keepsFrom_of_below hb3
      clear hb3 HF1 q0 q1 q2 q3 r0 r1 r2 r3 r4 r5 r6 r7 r8 r9 r10 cc hp2 HP hw2 hS2
      gi_wp2_with fail
      refine Two.Ph.wpIn_region_mix3 Two.Ph.eq_grow Two.Ph.any_grow (fun _ _ _ => trivial) [7] [(0, 2), (1, 2), (2, 2), (3, 2), (4, 2), (5, 2), (6, 2), (7, 1)] (by kernel_rfl) (by kernel_rfl) (by kernel_rfl) ?_
      have hS4 : Hid (SetsAt w B C vn vu vq vg (.slice ao n cap) us gs d l n (i + 1) W3.drew) := hS3.out.later (by exact ⟨rfl, rfl, rfl, Nat.le_refl _, fun _ _ => rfl⟩) hlt1
      have r1 := cell_of_row W3.drew p 1 _ _ (0, 0) hp3
      have hK4 : Hid (KeepsFrom W0.heap.size W2 W3.drew) := hK3.out.trans ((KeepsOthers.drew W3).from _)
      clear hS3 hK3 hp3
      generalize W3.drew = W4 at *
      have q1 := hS4.out.conf.cell.2.1
      have cc := cell_of_one hS4.out.cur
      have cf := free_of_one hS4.out.cur
      rw [HSS.out] at cc
      have HDy := Lib.hid (HDx.out W4 (by rw [HB.out]; exact hS4.out.below))
      repeat ((first | refine Two.Ph.mix3_soft rfl (fun K hK => ?_) | refine Two.Ph.mix3_soon rfl (fun K hK => ?_)); go_simp; (first | (refine hK _ ?_; clear hK K) | (apply Exists.intro; refine ⟨?_, hK _ ?_⟩; (first | (go_at_call 26; with_reducible exact HDy.out)); clear hK K)))
      clear r1 q1 HDy HDx
      refine Two.Ph.mix3_loud rfl (fun K hK => ?_)
      go_simp
      refine hK _ _ ?_
      clear hK K cc cf
      refine Two.Ph.mix3_done fun W5 hW5 => ?_
      have hb5 := cell_of_one ((Below.heap_setCell W4 ⟨C + 1, 0, none⟩ (.int .u64 (y : Int)) C (by simp)).trans hS4.out.out)
      have hc5 : (W4.setCell ⟨C + 1, 0, none⟩ (.int .u64 (y : Int))).cell? ⟨C + 1, 0, none⟩ = some (.int .u64 (y : Int)) := cell_of_one (hS4.out.cur.put y)
      have hr5 : (W4.setCell ⟨C + 1, 0, none⟩ (.int .u64 (y : Int))).ownsRow (B + 1) 35 1 (.slice (some ⟨B + 1, 0, none⟩) n n) n (u64Cells (L.fill us gs d l (i + 1))) := ownsRow.same hS4.out.row (Below.heap_setCell W4 ⟨C + 1, 0, none⟩ _ _ (by simp; omega))
      obtain ⟨v0, k0, k1⟩ := own_cell1 hr5 (j := i) (by omega)
      have hS6 := Lib.hid (hS4.out.stored hlt1 HIL.out HCU.out)
      have hK5 : Hid (KeepsFrom W0.heap.size W2 ((W4.setCell ⟨C + 1, 0, none⟩ (.int .u64 (y : Int))).setCell ⟨B + 1, i, none⟩ (.int .u64 (y : Int)))) := hK4.out.trans (((KeepsOthers.setCell _ _ _).from _).trans ((KeepsOthers.setCell _ _ _).from _))
      clear hr5 hS4 hK4
      subst hW5
      have hin0 : (0 : Int) ≤ (i : Int) := by omega
      have hinI : (i : Int) < (n : Int) := by omega
      gi_wp2_with fail
      exact ⟨hK5.out, fun _ => ⟨hS6.out.src, by rw [HB.out]; exact hS6.out.below⟩, i, by rw [List.length_append, List.length_singleton]; omega, hS6.out⟩
    | false =>
      rw [hfl] at HF1
      have hstep : L.step us gs ⟨o0, o1, o2, o3, o4, o5, o6, o7, o8, o9, k⟩ s = s := by unfold L.step; rw [hfl]; rfl
      rw [hstep] at HCU
      clear hfl hstep
      gi_wp2_with fail
      refine ⟨trivial, ?_⟩
      refine ((callsIn_wide.2 HF1.out).inRound lp).mono ?_
      rintro e W3 ⟨rfl, hb3⟩
      have hS4 : Hid (SetsAt w B C vn vu vq vg (.slice ao n cap) us gs d l n (i + 1) W3) := hS2.out.later (hb3.mono (by omega)) hlt1
      have hK4 : Hid (KeepsFrom W0.heap.size W2 W3) := keepsFrom_of_below hb3
      clear hb3 HF1 q0 q1 q2 q3 r0 r1 r2 r3 r4 r5 r6 r7 r8 r9 r10 cc hp2 HP hw2 hS2
      have hb5 := cell_of_one hS4.out.out
      have hc5 := cell_of_one hS4.out.cur
      rw [HSS.out] at hc5
      obtain ⟨v0, k0, k1⟩ := own_cell1 hS4.out.row (j := i) (by omega)
      have hS6 := Lib.hid (hS4.out.kept hlt1 HIL.out HCU.out HSS.out)
      have hK5 : Hid (KeepsFrom W0.heap.size W2 (W3.setCell ⟨B + 1, i, none⟩ (.int .u64 (s : Int)))) := hK4.out.trans ((KeepsOthers.setCell _ _ _).from _)
      clear hS4 hK4
      have hin0 : (0 : Int) ≤ (i : Int) := by omega
      have hinI : (i : Int) < (n : Int) := by omega
      gi_wp2_with fail
      exact ⟨hK5.out, fun _ => ⟨hS6.out.src, by rw [HB.out]; exact hS6.out.below⟩, i, by rw [List.length_append, List.length_singleton]; omega, hS6.out⟩
  case hdone =>
    rintro xs W hxs ⟨m, hm, hS⟩ hD
    obtain rfl : m = 0 := by omega
    have hc := cell_of_one hS.out
    have HS := Lib.hid hS
    have hrow := hS.row
    have hbw := hS.below
    rw [L.fill_end] at hrow
    clear hS hb2 hbel hS0
    gi_wp2_with fail
    refine ⟨by simp, .inl ⟨_, _, rfl, run_takeDeferred hD, ?_⟩⟩
    exact ⟨_, results_tmp rfl _ _ _, _, rfl, by rw [HB.out, HDD.out]; exact ownsRow.base (ownsRow_putObj hrow _ hD rfl) (by omega), by rw [HB.out]; exact below_put hbw (by omega) _⟩

theorem sets_any (vn vu vq vg vl : Value) (us : List Nat) (gs : List Gr) (l : List Opr) (level : Int) (w : World) (hu : Us w vu us) (hU : U64s us) (hg : Gs w vg gs) (hl : Os w vl l) (hlen : l.length ≤ 1000000) :
    Calls Tryd.prog 12 #[cfv vn vu vq vg, vl, .int .i64 level] w fun e w' => ∃ v', e = .returned v' ∧ w'.ownsRow w.heap.size 35 1 v' l.length (u64Cells (L.sets us gs (L.down us level) l)) ∧ Below w.heap.size w w' :=
  callsIn_wide.1 (sets_in 0 vn vu vq vg vl us gs l level w hu hU hg hl hlen)
end Go.Proofs.YtljpfocmnppjgaaDoor
