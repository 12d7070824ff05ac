/- What order.with returns: two rows in order, put together. -/
import Derived.Test.YtgipmbphbcnhcaaRwClone
import Derived.Test.YtgipmbphbcnhcaaMixPh
namespace Go.Proofs.Ytgipmbphbcnhcaa
open Go Go.RowKit

/-- A block of one slice of rows. -/
def Bo (w : World) (B : Nat) (v : Value) : Prop := w.heap[B]? = some (.cells #[v] 33 (0, 0))
theorem Bo.lt {w : World} {B : Nat} {v : Value} (h : Bo w B v) : B < w.heap.size := (Array.getElem?_eq_some_iff.1 h).1
theorem Bo.cell {w : World} {B : Nat} {v : Value} (h : Bo w B v) : w.cell? ⟨B, 0, none⟩ = some v := cell_of_row w B 0 _ _ (0, 0) h
theorem Bo.frozen {w : World} {B : Nat} {v : Value} (h : Bo w B v) : w.frozen? ⟨B, 0, none⟩ = false := frozen_of_row w B 0 _ _ h
theorem Bo.below {w w' : World} {B base : Nat} {v : Value} (h : Bo w B v) (hb : Below base w w') (hB : B < base) : Bo w' B v := (hb.block B hB).trans h
theorem Bo.later {w w' : World} {B : Nat} {v : Value} (h : Bo w B v) (hb : Below w.heap.size w w') : Bo w' B v := h.below hb h.lt
theorem Bo.grown {w w' : World} {B : Nat} {v : Value} {row : Option Nat} (h : Bo w B v) (hb : w.grownBy w' row) (hB : some B ≠ row) : Bo w' B v := (hb.block B h.lt hB).trans h
theorem Bo.far {w : World} {B : Nat} {v : Value} (h : Bo w B v) {p : Addr} (hp : B ≠ p.block) (u : Value) : Bo (w.setCell p u) B v := (Below.heap_setCell w p u B hp).trans h
theorem Bo.set {w : World} {B : Nat} {v : Value} (h : Bo w B v) (u : Value) : Bo (w.setCell ⟨B, 0, none⟩ u) B u := by
  have := heap_setCell_same w B 0 _ _ u h
  simpa [Bo] using this
theorem ownsRow.far {w : World} {base t sz n : Nat} {u : Value} {cs : List Value} (h : w.ownsRow base t sz u n cs) {p : Addr} (hp : p.block < base) (x : Value) : (w.setCell p x).ownsRow base t sz u n cs := by
  refine ⟨h.1, ?_⟩
  rcases h.2 with h2 | ⟨g, cap, cur, rfl, hg, hh, r⟩
  · exact .inl h2
  · exact .inr ⟨g, cap, cur, rfl, hg, by rw [Below.heap_setCell w p x g (by omega)]; exact hh, r⟩
theorem own_not {w : World} {base t sz n : Nat} {u : Value} {cs : List Value} (h : w.ownsRow base t sz u n cs) {B : Nat} (hB : B < base) : some B ≠ u.ownBlock := fun e => by
  have := ownBlock_ge h B e.symm
  omega
theorem wpList_make_cap {P : Program} {w : World} {ops : Array Oper} {rest : List Oper} {o : Oper} {a : Act} {Q : Exit → Act → World → Prop}
    (hg : o.guard = none) (l c : Operand) (t : TypeId) (hop : o.op = Op.makeSlice t l c)
    (base : Nat) (e : TypeId) (z : Value) (size bytes : Nat) (ht : P.underlying t = some (.slice e)) (hinfo : (P.info? e).map (fun i => (i.zero, i.size, i.bytes)) = some (some z, size, bytes))
    (kl kc : IntKind) (n : Nat) (hl : a.eval l = .int kl 0) (hc : a.eval c = .int kc n) (b2 : bytes * n ≤ 281474976710656) (b3 : n ≤ maxLen) (b4 : base ≤ w.heap.size)
    (hK : ∀ w', w'.ownsRow base e size (.slice (some ⟨w.heap.size, 0, none⟩) 0 n) 0 [] → w.grownBy w' none → wpList P ops Q rest (a.put o.dst (.slice (some ⟨w.heap.size, 0, none⟩) 0 n)) w') :
    wpList P ops Q (o :: rest) a w := by
  obtain ⟨i, hi, hz, h4, h5⟩ := info_parts hinfo
  exact wpList_make_own w hg l c t hop base e i z size ht hi hz h4 kl kc n n hl hc rfl (by rw [h5]; exact b2) b3 b4 hK

/-- 'append' as a loud step of a drawn region. -/
theorem hOper_append {P : Program} {R : World → World → Prop} {w : World} {o : Oper} {a : Act} {K : Act → World → Prop} (s x : Operand) (t : TypeId)
    (ho : o.op = .call { callee := .builtin .append, args := #[s, x], argTypes := #[t, t] })
    (base : Nat) (e : TypeId) (z : Value) (size bytes : Nat) (ht : P.underlying t = some (.slice e)) (hinfo : (P.info? e).map (fun i => (i.zero, i.size, i.bytes)) = some (some z, size, bytes))
    (hzs : z.cells.size = size) (hsz : 0 < size)
    (v : Value) (n : Nat) (xs : List Value) (hs : a.eval s = v) (hown : w.ownsRow base e size v n xs)
    (u : Value) (m : Nat) (news : List Value) (hx : a.eval x = u) (hsrc : Sl w size m u news) (h1 : ∀ u ∈ news, u.oneCell' = true)
    (h63 : n + m ≤ maxLen) (hbytes : (n + m) * bytes ≤ 140737488355328) (hbase : base ≤ w.heap.size)
    (h : ∀ v' w', w'.ownsRow base e size v' (n + m) (xs ++ news) → w.grownBy w' v.ownBlock → R w w' ∧ K (a.put o.dst v') w') : Two.hOper R P o a w K := by
  obtain ⟨i, hi, hz, h4, h5⟩ := info_parts hinfo
  obtain ⟨h0, ao, cap, rfl, hmc, hcm, hnone, hc⟩ := hsrc
  unfold Two.hOper
  cases ao with
  | none =>
    have hc0 := hnone rfl
    subst hc0
    obtain rfl : m = 0 := by omega
    have hnil : news = [] := List.eq_nil_of_length_eq_zero (by rw [h0]; simp)
    subst hnil
    have hrun := run_append_owned_none (P := P) (w := w) base t o.type e i size ht hi v n xs hown
    simp only [execOp, ho, resolve, invoke, builtin, hs, hx, hrun, Result.andThen, Sem.run_bind, Sem.run_pure, List.map_toArray, List.map_cons, List.map_nil, yieldsTo]
    exact h v w (by simpa using hown) (World.grownBy.refl _ _)
  | some ad =>
    obtain ⟨v', w', hr, h2, h3, -⟩ := run_append_own (P := P) w base t o.type e i z size bytes ht hi hz h4 h5 hzs hsz v n xs hown ad m cap news h0 (fun j y hj => by
      obtain ⟨hlt, rfl⟩ := List.getElem?_eq_some_iff.1 hj
      obtain ⟨b, off, e1, e2⟩ := hc j hlt
      obtain rfl := Option.some.inj e1
      rw [Addr.add_lit]
      exact e2) h1 h63 hbytes hbase
    simp only [execOp, ho, resolve, invoke, builtin, hs, hx, hr, Result.andThen, Sem.run_bind, Sem.run_pure, List.map_toArray, List.map_cons, List.map_nil, yieldsTo]
    exact h v' w' h2 h3

namespace S
/-- C is put together of what is ahead of o2 and m2. -/
structure Mer (o m C o2 m2 : List Rw) : Prop where
  alike : Alike (C ++ (o2 ++ m2)) (o ++ m)
  sorted : Sorted C
  so : Sorted o2
  sm : Sorted m2
  le : ∀ x ∈ C, ∀ y ∈ o2 ++ m2, rlt y x = false
theorem Mer.start {o m : List Rw} (so : Sorted o) (sm : Sorted m) : Mer o m [] o m := ⟨Alike.refl _, List.Pairwise.nil, so, sm, fun _ hx => by cases hx⟩
theorem Mer.right {o m C o3 m3 : List Rw} {x y : Rw} (h : Mer o m C (x :: o3) (y :: m3)) (hlt : rlt y x = true) : Mer o m (C ++ [y]) (x :: o3) m3 := by
  have ho := List.pairwise_cons.1 h.so
  have hm := List.pairwise_cons.1 h.sm
  have hy : ∀ a ∈ x :: o3, rlt y a = true := fun a ha => by
    rcases List.mem_cons.1 ha with rfl | ha
    · exact hlt
    · exact lt_of_lt_not hlt (ho.1 a ha)
  refine ⟨?_, sorted_append.2 ⟨h.sorted, List.pairwise_singleton _ _, fun c hc z hz => ?_⟩, h.so, hm.2, fun c hc z hz => ?_⟩
  · have h1 : Alike ([y] ++ (x :: o3)) ((x :: o3) ++ [y]) := Alike.swap fun a ha b hb => by rw [List.mem_singleton.1 hb]; exact hy a ha
    have h2 := (Alike.refl C).append (h1.append (Alike.refl m3))
    refine Alike.trans ?_ h.alike
    simpa using h2
  · rw [List.mem_singleton.1 hz]
    exact h.le c hc y (by simp)
  · rcases List.mem_append.1 hc with hc | hc
    · refine h.le c hc z ?_
      rcases List.mem_append.1 hz with hz | hz
      · exact List.mem_append_left _ hz
      · exact List.mem_append_right _ (List.mem_cons_of_mem _ hz)
    · rw [List.mem_singleton.1 hc]
      rcases List.mem_append.1 hz with hz | hz
      · exact rlt_asymm (hy z hz)
      · exact hm.1 z hz
theorem Mer.left {o m C o3 m3 : List Rw} {x y : Rw} (h : Mer o m C (x :: o3) (y :: m3)) (hlt : rlt y x = false) : Mer o m (C ++ [x]) o3 (y :: m3) := by
  have ho := List.pairwise_cons.1 h.so
  have hm := List.pairwise_cons.1 h.sm
  refine ⟨?_, sorted_append.2 ⟨h.sorted, List.pairwise_singleton _ _, fun c hc z hz => ?_⟩, ho.2, h.sm, fun c hc z hz => ?_⟩
  · have := h.alike
    simpa using this
  · rw [List.mem_singleton.1 hz]
    exact h.le c hc x (by simp)
  · rcases List.mem_append.1 hc with hc | hc
    · refine h.le c hc z ?_
      rcases List.mem_append.1 hz with hz | hz
      · exact List.mem_append_left _ (List.mem_cons_of_mem _ hz)
      · exact List.mem_append_right _ hz
    · rw [List.mem_singleton.1 hc]
      rcases List.mem_append.1 hz with hz | hz
      · exact ho.1 z hz
      · rcases List.mem_cons.1 hz with rfl | hz
        · exact hlt
        · exact no_lt (hm.1 z hz) hlt
theorem Mer.done {o m C o2 m2 : List Rw} (h : Mer o m C o2 m2) (h0 : o2 = [] ∨ m2 = []) : IsSort (o ++ m) ((C ++ o2) ++ m2) := by
  rcases h0 with rfl | rfl
  · have h1 := h.alike
    simp only [List.nil_append, List.append_nil] at h1 ⊢
    exact ⟨sorted_append.2 ⟨h.sorted, h.sm, fun c hc z hz => h.le c hc z (by simpa using hz)⟩, h1⟩
  · have h1 := h.alike
    simp only [List.append_nil] at h1 ⊢
    exact ⟨sorted_append.2 ⟨h.sorted, h.so, fun c hc z hz => h.le c hc z (by simpa using hz)⟩, h1⟩
end S

theorem ite_yes {c A B : Prop} [Decidable c] (hc : c) (h : A) : if c then A else B := by rw [if_pos hc]; exact h
def lenOf : Value → Nat
  | .slice _ n _ => n
  | _ => 0
theorem own_lenOf {w : World} {base t sz n : Nat} {u : Value} {cs : List Value} (h : w.ownsRow base t sz u n cs) : lenOf u = n := by
  rcases h.2 with ⟨rfl, rfl⟩ | ⟨g, cap, cur, rfl, -⟩
  · rfl
  · rfl
theorem Rs.sl {w : World} {v : Value} {l : List Rw} {n : Nat} (h : Rs w v l) (hn : l.length = n) : Sl w 3 n v (RW.cells l) := by
  subst hn
  exact h
theorem Rs.drop1 {w : World} {ao : Option Addr} {n cap : Nat} {x : Rw} {l : List Rw} (h : Rs w (.slice ao n cap) (x :: l)) (hn : (x :: l).length = n) :
    ∃ ad cd, Rs w (.slice ad (n - 1) cd) l ∧ l.length = n - 1 ∧ ∀ W, (Instr.slice 33 (.slice ao n cap) (some (.int .i64 1)) none none).run Try.prog W = .ok (.slice ad (n - 1) cd) W := by
  have hp : 1 ≤ n := by rw [← hn]; simp
  obtain ⟨vd, hvd, hrun⟩ := run_drop (P := Try.prog) (t := 33) Try.underlying33 infoRw (h.sl hn) .i64 1 hp
  rw [RW.cells_drop] at hvd
  have hl : l.length = n - 1 := by rw [← hn]; simp
  have h2 : Rs w vd l := by unfold Rs Three.Ss; rw [hl]; simpa using hvd
  obtain ⟨ad, cd, rfl, -⟩ := h2.shape
  rw [hl] at h2 hrun
  exact ⟨ad, cd, h2, hl, hrun⟩
theorem Rs.head {w : World} {ao : Option Addr} {n cap : Nat} {x : Rw} {l : List Rw} (h : Rs w (.slice ao n cap) (x :: l)) :
    ∃ b off, ao = some ⟨b, off, none⟩ ∧ ∀ W, Below w.heap.size w W → W.cell? ⟨b, off, none⟩ = some (.string (str x.1)) ∧ W.cell? ⟨b, off + 1, none⟩ = some (.int .i64 x.2.1) ∧ W.cell? ⟨b, off + 2, none⟩ = some (.string (str x.2.2)) := by
  obtain ⟨b, off, rfl, -⟩ := Three.Ss.at h (j := 0) (by simp)
  refine ⟨b, off, rfl, fun W hW => ?_⟩
  obtain ⟨b', off', e, hc⟩ := Three.Ss.at (Three.Ss.below h hW) (j := 0) (by simp)
  obtain ⟨rfl, rfl⟩ : b = b' ∧ off = off' := by simpa using e
  have := hc 0 (by simp)
  simpa [RW] using this

set_option maxRecDepth 4000 in
set_option maxHeartbeats 4000000 in
theorem with_any (vo vm : Value) (o m : List Rw) (w : World) (ho : Rs w vo o) (hm : Rs w vm m) (hso : S.Sorted o) (hsm : S.Sorted m) (hl : o.length + m.length ≤ 1000000) :
    Calls Try.prog 17 #[vo, vm] w fun e w' => ∃ v' C, e = .returned v' ∧ S.IsSort (o ++ m) C ∧ w'.ownsRow w.heap.size 29 3 v' C.length (RW.cells C) ∧ Below w.heap.size w w' := by
  obtain ⟨ao1, cap1, rfl, -⟩ := ho.shape
  obtain ⟨ao2, cap2, rfl, -⟩ := hm.shape
  have HO := Lib.hid ho
  have HM := Lib.hid hm
  have HZ := Lib.hid (S.Mer.start hso hsm)
  have HLS := Lib.hid (And.intro (Eq.refl o.length) (Eq.refl m.length))
  obtain ⟨n1, hn1⟩ : ∃ n, o.length = n := ⟨_, rfl⟩
  obtain ⟨n2, hn2⟩ : ∃ n, m.length = n := ⟨_, rfl⟩
  obtain ⟨N, hN⟩ : ∃ N, n1 + n2 = N := ⟨_, rfl⟩
  rw [hn1, hn2, hN] at hl
  rw [hn1] at HO ⊢
  rw [hn2] at HM ⊢
  have HN := Lib.hid (And.intro hn1 hn2)
  clear ho hm hso hsm hn1 hn2 HLS
  have f0 : IntKind.i64.wrap ((n1 : Int) + (n2 : Int)) = (N : Int) := by rw [IntKind.wrap_i64] <;> omega
  obtain ⟨B, hB⟩ : ∃ B, w.heap.size = B := ⟨_, rfl⟩
  have hb2 : Below B w ((w.alloc (.cells #[.slice ao1 n1 cap1] 33)).alloc (.cells #[.slice ao2 n2 cap2] 33)) := ((Below.refl _ _).alloc (Nat.le_of_eq hB.symm) _).alloc (by simp; omega) _
  have x1 : Bo ((w.alloc (.cells #[.slice ao1 n1 cap1] 33)).alloc (.cells #[.slice ao2 n2 cap2] 33)) B (.slice ao1 n1 cap1) := by
    unfold Bo
    rw [← hB]
    exact (Below.heap_alloc _ _ _ (by simp)).trans (heap_alloc_new _ _)
  have x2 : Bo ((w.alloc (.cells #[.slice ao1 n1 cap1] 33)).alloc (.cells #[.slice ao2 n2 cap2] 33)) (B + 1) (.slice ao2 n2 cap2) := by
    have := heap_alloc_new (w.alloc (.cells #[.slice ao1 n1 cap1] 33)) (.cells #[.slice ao2 n2 cap2] 33)
    rw [World.size_alloc, hB] at this
    exact this
  have hs2 : ((w.alloc (.cells #[.slice ao1 n1 cap1] 33)).alloc (.cells #[.slice ao2 n2 cap2] 33)).heap.size = B + 2 := by simp; omega
  have X1 := Lib.hid x1
  have X2 := Lib.hid x2
  have HB2 := Lib.hid hb2
  clear x1 x2 hb2
  go_enter Try.func17, Try.ntmps17
  go_wp2_with (at_make; go_must (refine wpList_make_cap rfl _ _ 33 rfl (B + 2) 29 _ 3 40 Try.underlying33 infoRw _ _ N rfl rfl (by omega) (by unfold maxLen; omega) (by rw [hs2]; exact Nat.le_refl _) ?_))
  intro w1 hown hgrow
  have hbr0 := HB2.out.grown hgrow (by rw [hs2]; omega) (fun k hk => by cases hk)
  have Y1 := Lib.hid (X1.out.grown hgrow (by simp))
  have Y2 := Lib.hid (X2.out.grown hgrow (by simp))
  have HW := Lib.hid hown
  have HF := Lib.hid hB
  have hbr0 := Lib.hid hbr0
  clear hown hgrow X1 X2 HB2 hs2 hB f0
  go_wp2_with fail
  go_loopw [5] (fun t wr => ∃ (k a b c1 c2 : Nat) (p1 p2 : Option Addr) (C o2 m2 : List Rw), k + a + b = N ∧ Hid (Bo wr B (.slice p1 a c1)) ∧ Hid (Bo wr (B + 1) (.slice p2 b c2)) ∧ Hid (Rs w (.slice p1 a c1) o2 ∧ o2.length = a) ∧ Hid (Rs w (.slice p2 b c2) m2 ∧ m2.length = b) ∧ Hid (S.Mer o m C o2 m2) ∧ Hid (wr.ownsRow (B + 2) 29 3 t k (RW.cells C)) ∧ Hid (Below B w wr)) (fun t _ => N - lenOf t)
  case atStart => exact ⟨0, n1, n2, cap1, cap2, ao1, ao2, [], o, m, by omega, Y1, Y2, ⟨HO.out, HN.out.1⟩, ⟨HM.out, HN.out.2⟩, HZ, HW, hbr0⟩
  case round =>
    clear hbr0 Y1 Y2 HW HZ HO HM HN hN
    obtain ⟨k, a, b, c1, c2, p1, p2, C, o2, m2, hk, Y1, Y2, R1, R2, HZ, HW, hbr⟩ := hrel
    have hexit : Hid (∀ (_ : a = 0 ∨ b = 0), o2 = [] ∨ m2 = []) := fun h => h.imp (fun h => List.eq_nil_of_length_eq_zero (by rw [R1.out.2]; exact h)) (fun h => List.eq_nil_of_length_eq_zero (by rw [R2.out.2]; exact h))
    by_cases h12 : 0 < a ∧ 0 < b
    · obtain ⟨ha, hb⟩ := h12
      obtain ⟨x, o3, hx⟩ : ∃ x o3, o2 = x :: o3 := by
        cases o2 with
        | nil => have := R1.out.2; simp at this; omega
        | cons x o3 => exact ⟨x, o3, rfl⟩
      obtain ⟨y, m3, hy⟩ : ∃ y m3, m2 = y :: m3 := by
        cases m2 with
        | nil => have := R2.out.2; simp at this; omega
        | cons y m3 => exact ⟨y, m3, rfl⟩
      subst hx hy
      clear hexit
      obtain ⟨b1, o1, rfl, hc1⟩ := R1.out.1.head
      obtain ⟨b2, o2, rfl, hc2⟩ := R2.out.1.head
      rw [HF.out] at hc1 hc2
      obtain ⟨x0, x1, x2⟩ := x
      obtain ⟨y0, y1, y2⟩ := y
      have HX1 := Lib.hid hc1
      have HX2 := Lib.hid hc2
      have HC : Hid (∀ W, Calls Try.prog 9 #[.agg #[.string (str y0), .int .i64 y1, .string (str y2)], .agg #[.string (str x0), .int .i64 x1, .string (str x2)]] W fun e w' => e = .returned (.bool (S.rlt (y0, y1, y2) (x0, x1, x2))) ∧ Ext W w') := fun W => rlt_any (y0, y1, y2) (x0, x1, x2) W
      have ha' : (0 : Int) < (a : Int) := by omega
      have hb' : (0 : Int) < (b : Int) := by omega
      have cb1 := Y1.out.cell
      have cb2 := Y2.out.cell
      clear hc1 hc2
      go_wp2_with fail
      clear cb1 cb2
      refine wp_region_mix ext_grow [(0, false), (1, false), (2, false), (3, false), (4, false), (5, false), (6, false)] (by kernel_rfl) (by kernel_rfl) ?_
      have HW0 : Hid (wr.drew.ownsRow (B + 2) 29 3 u5 k (RW.cells C)) := HW.out.drew
      have Y10 : Hid (Bo wr.drew B (.slice (some ⟨b1, o1, none⟩) a c1)) := Y1.out
      have Y20 : Hid (Bo wr.drew (B + 1) (.slice (some ⟨b2, o2, none⟩) b c2)) := Y2.out
      have hbr1 : Hid (Below B w wr.drew) := hbr.out.drew
      clear HW Y1 Y2 hbr
      generalize wr.drew = w0 at *
      have hbx : ∀ x : Later w0, Below B w x.1 := fun x => by
        have := below_next (w0 := w) (by rw [HF.out]; exact hbr1.out) x.2
        rwa [HF.out] at this
      have g1 : ∀ x : Later w0, x.1.cell? ⟨B, 0, none⟩ = some (.slice (some ⟨b1, o1, none⟩) a c1) := fun x => (Y10.out.later x.2).cell
      have g2 : ∀ x : Later w0, x.1.cell? ⟨B + 1, 0, none⟩ = some (.slice (some ⟨b2, o2, none⟩) b c2) := fun x => (Y20.out.later x.2).cell
      have p0 : ∀ x : Later w0, x.1.cell? ⟨b1, o1, none⟩ = some (.string (str x0)) := fun x => (HX1.out x.1 (hbx x)).1
      have p1 : ∀ x : Later w0, x.1.cell? ⟨b1, o1 + 1, none⟩ = some (.int .i64 x1) := fun x => (HX1.out x.1 (hbx x)).2.1
      have p2 : ∀ x : Later w0, x.1.cell? ⟨b1, o1 + 2, none⟩ = some (.string (str x2)) := fun x => (HX1.out x.1 (hbx x)).2.2
      have q0 : ∀ x : Later w0, x.1.cell? ⟨b2, o2, none⟩ = some (.string (str y0)) := fun x => (HX2.out x.1 (hbx x)).1
      have q1 : ∀ x : Later w0, x.1.cell? ⟨b2, o2 + 1, none⟩ = some (.int .i64 y1) := fun x => (HX2.out x.1 (hbx x)).2.1
      have q2 : ∀ x : Later w0, x.1.cell? ⟨b2, o2 + 2, none⟩ = some (.string (str y2)) := fun x => (HX2.out x.1 (hbx x)).2.2
      have HBX := Lib.hid hbx
      clear hbx
      cases hlt : S.rlt (y0, y1, y2) (x0, x1, x2) with
      | true =>
        rw [hlt] at HC
        have hlt' := Lib.hid hlt
        clear hlt
        repeat (refine mix_soft rfl (fun K hK => ?_); go_simp; (first | (refine hK _ ?_; clear hK K) | (apply Exists.intro; refine ⟨fun x => ?_, hK _ ?_⟩; (first | (go_at_call 9; with_reducible exact HC.out _)); clear hK K)))
        clear p0 p1 p2 q0 q1 q2 g1 g2
        refine mix_done fun w4 hb5 => ?_
        have hb4 : Hid (Below B w w4) := HBX.out ⟨w4, hb5⟩
        have HW := Lib.hid (ownsRow.below HW0.out hb5)
        have Y1 := Lib.hid (Y10.out.later hb5)
        have Y2 := Lib.hid (Y20.out.later hb5)
        have hlt := hlt'.out
        clear hb5 HBX HW0 Y10 Y20 hbr1 HC
        have hz := Lib.hid (HZ.out.right hlt)
        obtain ⟨pd, cd, rd, rdl, hrun⟩ := Rs.drop1 R2.out.1 R2.out.2
        have RD := Lib.hid (And.intro rd rdl)
        have e0 := (HX2.out w4 hb4.out).1
        have e1 := (HX2.out w4 hb4.out).2.1
        have e2 := (HX2.out w4 hb4.out).2.2
        have cb := Y2.out.cell
        have HO6 := Lib.hid (HW.out.alloc (.cells #[.string (str y0), .int .i64 y1, .string (str y2)] 29))
        have HS6 : Hid (Sl (w4.alloc (.cells #[.string (str y0), .int .i64 y1, .string (str y2)] 29)) 3 1 (.slice (some ⟨w4.heap.size, 0, none⟩) 1 1) (RW.cells [(y0, y1, y2)])) := Sl.lit w4 29 3 1 #[.string (str y0), .int .i64 y1, .string (str y2)] (0, 0) rfl (by decide)
        have hsz : B + 2 ≤ w4.heap.size := by have := Y2.out.lt; omega
        have hb6 : Hid (Below B w (w4.alloc (.cells #[.string (str y0), .int .i64 y1, .string (str y2)] 29))) := hb4.out.alloc (by omega) _
        have Z1 := Lib.hid (Y1.out.later ((Below.refl _ w4).alloc (Nat.le_refl _) (.cells #[.string (str y0), .int .i64 y1, .string (str y2)] 29)))
        have Z2 := Lib.hid (Y2.out.later ((Below.refl _ w4).alloc (Nat.le_refl _) (.cells #[.string (str y0), .int .i64 y1, .string (str y2)] 29)))
        have hsz6 : B + 2 ≤ (w4.alloc (.cells #[.string (str y0), .int .i64 y1, .string (str y2)] 29)).heap.size := by simp; omega
        clear HZ HW Y1 Y2 rd rdl hb4 R2
        go_wp2_with (at_builtin; go_must (refine wpList_append_sl rfl _ _ 33 rfl (B + 2) 29 _ 3 40 Try.underlying33 infoRw rfl (by decide) _ _ _ rfl HO6.out _ 1 (RW.cells [(y0, y1, y2)]) rfl HS6.out (rw_oneCell _) (by unfold maxLen; omega) (by omega) hsz6 ?_))
        intro v7 w7 hown7 hgrow _
        have hno : Hid (some B ≠ u5.ownBlock ∧ some (B + 1) ≠ u5.ownBlock) := ⟨own_not HO6.out (by omega), own_not HO6.out (by omega)⟩
        have hb7 : Hid (Below B w w7) := hb6.out.grown hgrow (by omega) (fun g hg => by have := ownBlock_ge HO6.out g hg; omega)
        have A1 := Lib.hid (Z1.out.grown hgrow hno.out.1)
        have A2 := Lib.hid (Z2.out.grown hgrow hno.out.2)
        have HW7 : Hid (w7.ownsRow (B + 2) 29 3 v7 (k + 1) (RW.cells (C ++ [(y0, y1, y2)]))) := by unfold Hid; rw [RW.cells_append]; exact hown7
        have L5 := own_lenOf HO6.out
        have L7 := own_lenOf HW7.out
        have fb := A2.out.frozen
        have cb := A2.out.cell
        have D1 := Lib.hid (A1.out.far (p := ⟨(B + 1), 0, none⟩) (by simp) (.slice pd (b - 1) cd))
        have D2 := Lib.hid (A2.out.set (.slice pd (b - 1) cd))
        have D3 := Lib.hid (ownsRow.far HW7.out (p := ⟨(B + 1), 0, none⟩) (by simp) (.slice pd (b - 1) cd))
        have D4 := Lib.hid (hb7.out.setCell (p := ⟨(B + 1), 0, none⟩) (by simp) (.slice pd (b - 1) cd))
        clear hown7 hgrow HO6 HS6 hb6 Z1 Z2 hsz6 hno hb7 A1 A2 HW7 e0 e1 e2
        go_wp2_with fail
        go_roundw
        case rel => exact ⟨k + 1, a, b - 1, c1, cd, _, pd, C ++ [(y0, y1, y2)], (x0, x1, x2) :: o3, m3, by omega, D1, D2, R1, RD, hz, D3, D4⟩
        case measure => rw [L7, L5]; omega
      | false =>
        rw [hlt] at HC
        have hlt' := Lib.hid hlt
        clear hlt
        repeat (refine mix_soft rfl (fun K hK => ?_); go_simp; (first | (refine hK _ ?_; clear hK K) | (apply Exists.intro; refine ⟨fun x => ?_, hK _ ?_⟩; (first | (go_at_call 9; with_reducible exact HC.out _)); clear hK K)))
        clear p0 p1 p2 q0 q1 q2 g1 g2
        refine mix_done fun w4 hb5 => ?_
        have hb4 : Hid (Below B w w4) := HBX.out ⟨w4, hb5⟩
        have HW := Lib.hid (ownsRow.below HW0.out hb5)
        have Y1 := Lib.hid (Y10.out.later hb5)
        have Y2 := Lib.hid (Y20.out.later hb5)
        have hlt := hlt'.out
        clear hb5 HBX HW0 Y10 Y20 hbr1 HC
        have hz := Lib.hid (HZ.out.left hlt)
        obtain ⟨pd, cd, rd, rdl, hrun⟩ := Rs.drop1 R1.out.1 R1.out.2
        have RD := Lib.hid (And.intro rd rdl)
        have e0 := (HX1.out w4 hb4.out).1
        have e1 := (HX1.out w4 hb4.out).2.1
        have e2 := (HX1.out w4 hb4.out).2.2
        have cb := Y1.out.cell
        have HO6 := Lib.hid (HW.out.alloc (.cells #[.string (str x0), .int .i64 x1, .string (str x2)] 29))
        have HS6 : Hid (Sl (w4.alloc (.cells #[.string (str x0), .int .i64 x1, .string (str x2)] 29)) 3 1 (.slice (some ⟨w4.heap.size, 0, none⟩) 1 1) (RW.cells [(x0, x1, x2)])) := Sl.lit w4 29 3 1 #[.string (str x0), .int .i64 x1, .string (str x2)] (0, 0) rfl (by decide)
        have hsz : B + 2 ≤ w4.heap.size := by have := Y2.out.lt; omega
        have hb6 : Hid (Below B w (w4.alloc (.cells #[.string (str x0), .int .i64 x1, .string (str x2)] 29))) := hb4.out.alloc (by omega) _
        have Z1 := Lib.hid (Y1.out.later ((Below.refl _ w4).alloc (Nat.le_refl _) (.cells #[.string (str x0), .int .i64 x1, .string (str x2)] 29)))
        have Z2 := Lib.hid (Y2.out.later ((Below.refl _ w4).alloc (Nat.le_refl _) (.cells #[.string (str x0), .int .i64 x1, .string (str x2)] 29)))
        have hsz6 : B + 2 ≤ (w4.alloc (.cells #[.string (str x0), .int .i64 x1, .string (str x2)] 29)).heap.size := by simp; omega
        clear HZ HW Y1 Y2 rd rdl hb4 R1
        go_wp2_with (at_builtin; go_must (refine wpList_append_sl rfl _ _ 33 rfl (B + 2) 29 _ 3 40 Try.underlying33 infoRw rfl (by decide) _ _ _ rfl HO6.out _ 1 (RW.cells [(x0, x1, x2)]) rfl HS6.out (rw_oneCell _) (by unfold maxLen; omega) (by omega) hsz6 ?_))
        intro v7 w7 hown7 hgrow _
        have hno : Hid (some B ≠ u5.ownBlock ∧ some (B + 1) ≠ u5.ownBlock) := ⟨own_not HO6.out (by omega), own_not HO6.out (by omega)⟩
        have hb7 : Hid (Below B w w7) := hb6.out.grown hgrow (by omega) (fun g hg => by have := ownBlock_ge HO6.out g hg; omega)
        have A1 := Lib.hid (Z1.out.grown hgrow hno.out.1)
        have A2 := Lib.hid (Z2.out.grown hgrow hno.out.2)
        have HW7 : Hid (w7.ownsRow (B + 2) 29 3 v7 (k + 1) (RW.cells (C ++ [(x0, x1, x2)]))) := by unfold Hid; rw [RW.cells_append]; exact hown7
        have L5 := own_lenOf HO6.out
        have L7 := own_lenOf HW7.out
        have fb := A1.out.frozen
        have cb := A1.out.cell
        have D1 := Lib.hid (A2.out.far (p := ⟨B, 0, none⟩) (by simp) (.slice pd (a - 1) cd))
        have D2 := Lib.hid (A1.out.set (.slice pd (a - 1) cd))
        have D3 := Lib.hid (ownsRow.far HW7.out (p := ⟨B, 0, none⟩) (by simp) (.slice pd (a - 1) cd))
        have D4 := Lib.hid (hb7.out.setCell (p := ⟨B, 0, none⟩) (by simp) (.slice pd (a - 1) cd))
        clear hown7 hgrow HO6 HS6 hb6 Z1 Z2 hsz6 hno hb7 A1 A2 HW7 e0 e1 e2
        go_wp2_with fail
        go_roundw
        case rel => exact ⟨k + 1, a - 1, b, cd, c2, pd, _, C ++ [(x0, x1, x2)], o3, (y0, y1, y2) :: m3, by omega, D2, D1, RD, R2, hz, D3, D4⟩
        case measure => rw [L7, L5]; omega
    · have hd := Lib.hid (hexit.out (by omega))
      have cb1 := Y1.out.cell
      have cb2 := Y2.out.cell
      by_cases ha : 0 < a
      · have ha' : (0 : Int) < (a : Int) := by omega
        obtain rfl : b = 0 := by omega
        go_wp2_with fail
        refine Two.Ph.wp_region_mix3 Two.Ph.eq_grow (below_grow (B + 2)) (fun _ _ h => h ▸ Below.refl _ _) [2, 4] [(0, 0), (1, 0), (3, 0), (2, 1), (4, 1), (5, 0)] (by kernel_rfl) (by kernel_rfl) ?_
        have HW0 : Hid (wr.drew.ownsRow (B + 2) 29 3 u5 k (RW.cells C)) := HW.out.drew
        have Y10 : Hid (Bo wr.drew B (.slice p1 a c1)) := Y1.out
        have Y20 : Hid (Bo wr.drew (B + 1) (.slice p2 0 c2)) := Y2.out
        have hbr1 : Hid (Below B w wr.drew) := hbr.out.drew
        clear HW Y1 Y2 hbr cb1 cb2
        generalize wr.drew = w0 at *
        have g1 : ∀ x : LaterR (Below (B + 2)) w0, x.1.cell? ⟨B, 0, none⟩ = some (.slice p1 a c1) := fun x => (Y10.out.below x.2 (by omega)).cell
        have g2 : ∀ x : LaterR (Below (B + 2)) w0, x.1.cell? ⟨B + 1, 0, none⟩ = some (.slice p2 0 c2) := fun x => (Y20.out.below x.2 (by omega)).cell
        repeat ((first | refine Two.Ph.mix3_soft rfl (fun K hK => ?_) | refine Two.Ph.mix3_soon rfl (fun K hK => ?_)); go_simp; (first | (refine hK _ ?_; clear hK K) | (apply Exists.intro; refine ⟨fun x => ?_, hK _ ?_⟩; (first | done); clear hK K)))
        clear g1 g2
        have hsz : B + 2 ≤ w0.heap.size := by have := Y20.out.lt; omega
        refine Two.Ph.mix3_loud rfl (fun K hK => ?_)
        refine ite_yes rfl ?_
        rintro ⟨_, rfl⟩
        refine hOper_append _ _ 33 rfl (B + 2) 29 _ 3 40 Try.underlying33 infoRw rfl (by decide) _ k (RW.cells C) rfl HW0.out _ a (RW.cells o2) rfl (Rs.sl (Three.Ss.below R1.out.1 (by rw [HF.out]; exact hbr1.out)) R1.out.2) (rw_oneCell _) (by unfold maxLen; omega) (by omega) hsz ?_
        intro v6 w6 hown6 hgrow
        have hb6 := Lib.hid (hbr1.out.grown hgrow (by omega) (fun g hg => by have := ownBlock_ge HW0.out g hg; omega))
        have hz6 : B + 2 ≤ w6.heap.size := Nat.le_trans hsz hgrow.size
        have HO6 := Lib.hid hown6
        refine ⟨(Below.refl _ _).grown hgrow hsz (ownBlock_ge HW0.out), hK _ _ ?_⟩
        clear hK K hown6 hgrow HW0 Y10 Y20 hbr1
        refine Two.Ph.mix3_loud rfl (fun K hK => ?_)
        refine ite_yes rfl ?_
        rintro ⟨_, rfl⟩
        refine hOper_append _ _ 33 rfl (B + 2) 29 _ 3 40 Try.underlying33 infoRw rfl (by decide) _ (k + a) (RW.cells C ++ RW.cells o2) rfl HO6.out _ 0 (RW.cells m2) rfl (Rs.sl (Three.Ss.below R2.out.1 (by rw [HF.out]; exact hb6.out)) R2.out.2) (rw_oneCell _) (by unfold maxLen; omega) (by omega) hz6 ?_
        intro v7 w7 hown7 hgrow
        have hb7 := Lib.hid (hb6.out.grown hgrow (by omega) (fun g hg => by have := ownBlock_ge HO6.out g hg; omega))
        have HO7 : Hid (w7.ownsRow B 29 3 v7 ((C ++ o2) ++ m2).length (RW.cells ((C ++ o2) ++ m2))) := by
          unfold Hid
          have hlen : ((C ++ o2) ++ m2).length = k + a + 0 := by
            have h1 := HO6.out.1
            rw [List.length_append, Three.cells_length, Three.cells_length] at h1
            rw [List.length_append, List.length_append, R2.out.2]
            omega
          rw [hlen, RW.cells_append, RW.cells_append]
          exact ownsRow.base hown7 (by omega)
        refine ⟨(Below.refl _ _).grown hgrow hz6 (ownBlock_ge HO6.out), hK _ _ ?_⟩
        clear hK K hown7 hgrow HO6 hb6
        repeat ((first | refine Two.Ph.mix3_soft rfl (fun K hK => ?_) | refine Two.Ph.mix3_soon rfl (fun K hK => ?_)); go_simp; (first | (refine hK _ ?_; clear hK K) | (apply Exists.intro; refine ⟨fun x => ?_, hK _ ?_⟩; (first | done); clear hK K)))
        refine Two.Ph.mix3_done fun w8 h => ?_
        subst h
        go_wp2_with fail
        go_ret
        exact ⟨_, _, rfl, HZ.out.done hd.out, by rw [HF.out]; exact HO7.out, by rw [HF.out]; exact hb7.out⟩
      · obtain rfl : a = 0 := by omega
        go_wp2_with fail
        refine Two.Ph.wp_region_mix3 Two.Ph.eq_grow (below_grow (B + 2)) (fun _ _ h => h ▸ Below.refl _ _) [2, 4] [(0, 0), (1, 0), (3, 0), (2, 1), (4, 1), (5, 0)] (by kernel_rfl) (by kernel_rfl) ?_
        have HW0 : Hid (wr.drew.ownsRow (B + 2) 29 3 u5 k (RW.cells C)) := HW.out.drew
        have Y10 : Hid (Bo wr.drew B (.slice p1 0 c1)) := Y1.out
        have Y20 : Hid (Bo wr.drew (B + 1) (.slice p2 b c2)) := Y2.out
        have hbr1 : Hid (Below B w wr.drew) := hbr.out.drew
        clear HW Y1 Y2 hbr cb1 cb2
        generalize wr.drew = w0 at *
        have g1 : ∀ x : LaterR (Below (B + 2)) w0, x.1.cell? ⟨B, 0, none⟩ = some (.slice p1 0 c1) := fun x => (Y10.out.below x.2 (by omega)).cell
        have g2 : ∀ x : LaterR (Below (B + 2)) w0, x.1.cell? ⟨B + 1, 0, none⟩ = some (.slice p2 b c2) := fun x => (Y20.out.below x.2 (by omega)).cell
        repeat ((first | refine Two.Ph.mix3_soft rfl (fun K hK => ?_) | refine Two.Ph.mix3_soon rfl (fun K hK => ?_)); go_simp; (first | (refine hK _ ?_; clear hK K) | (apply Exists.intro; refine ⟨fun x => ?_, hK _ ?_⟩; (first | done); clear hK K)))
        clear g1 g2
        have hsz : B + 2 ≤ w0.heap.size := by have := Y20.out.lt; omega
        refine Two.Ph.mix3_loud rfl (fun K hK => ?_)
        refine ite_yes rfl ?_
        rintro ⟨_, rfl⟩
        refine hOper_append _ _ 33 rfl (B + 2) 29 _ 3 40 Try.underlying33 infoRw rfl (by decide) _ k (RW.cells C) rfl HW0.out _ 0 (RW.cells o2) rfl (Rs.sl (Three.Ss.below R1.out.1 (by rw [HF.out]; exact hbr1.out)) R1.out.2) (rw_oneCell _) (by unfold maxLen; omega) (by omega) hsz ?_
        intro v6 w6 hown6 hgrow
        have hb6 := Lib.hid (hbr1.out.grown hgrow (by omega) (fun g hg => by have := ownBlock_ge HW0.out g hg; omega))
        have hz6 : B + 2 ≤ w6.heap.size := Nat.le_trans hsz hgrow.size
        have HO6 := Lib.hid hown6
        refine ⟨(Below.refl _ _).grown hgrow hsz (ownBlock_ge HW0.out), hK _ _ ?_⟩
        clear hK K hown6 hgrow HW0 Y10 Y20 hbr1
        refine Two.Ph.mix3_loud rfl (fun K hK => ?_)
        refine ite_yes rfl ?_
        rintro ⟨_, rfl⟩
        refine hOper_append _ _ 33 rfl (B + 2) 29 _ 3 40 Try.underlying33 infoRw rfl (by decide) _ (k + 0) (RW.cells C ++ RW.cells o2) rfl HO6.out _ b (RW.cells m2) rfl (Rs.sl (Three.Ss.below R2.out.1 (by rw [HF.out]; exact hb6.out)) R2.out.2) (rw_oneCell _) (by unfold maxLen; omega) (by omega) hz6 ?_
        intro v7 w7 hown7 hgrow
        have hb7 := Lib.hid (hb6.out.grown hgrow (by omega) (fun g hg => by have := ownBlock_ge HO6.out g hg; omega))
        have HO7 : Hid (w7.ownsRow B 29 3 v7 ((C ++ o2) ++ m2).length (RW.cells ((C ++ o2) ++ m2))) := by
          unfold Hid
          have hlen : ((C ++ o2) ++ m2).length = k + 0 + b := by
            have h1 := HO6.out.1
            rw [List.length_append, Three.cells_length, Three.cells_length] at h1
            rw [List.length_append, List.length_append, R2.out.2]
            omega
          rw [hlen, RW.cells_append, RW.cells_append]
          exact ownsRow.base hown7 (by omega)
        refine ⟨(Below.refl _ _).grown hgrow hz6 (ownBlock_ge HO6.out), hK _ _ ?_⟩
        clear hK K hown7 hgrow HO6 hb6
        repeat ((first | refine Two.Ph.mix3_soft rfl (fun K hK => ?_) | refine Two.Ph.mix3_soon rfl (fun K hK => ?_)); go_simp; (first | (refine hK _ ?_; clear hK K) | (apply Exists.intro; refine ⟨fun x => ?_, hK _ ?_⟩; (first | done); clear hK K)))
        refine Two.Ph.mix3_done fun w8 h => ?_
        subst h
        go_wp2_with fail
        go_ret
        exact ⟨_, _, rfl, HZ.out.done hd.out, by rw [HF.out]; exact HO7.out, by rw [HF.out]; exact hb7.out⟩
end Go.Proofs.Ytgipmbphbcnhcaa
