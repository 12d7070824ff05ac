/- Rows in order: what a stable sort is, and that there is one alone. No program. What merge.compare, Less and the reference's Less return. What slices.swapRangeCmpFunc leaves. Two rows in order, put together in place. No program. What slices.insertionSortCmpFunc leaves. What slices.Clone, IsSortedFunc and SortStableFunc at rows return. What order.with returns: two rows in order, put together. What merge.Union returns: the rows in order, so many at most. What the reference's Less returns at rows. What the reference's Union returns: the rows in order, so many at most. CRC-32 as a plain function, and its laws: sums go on, are affine, and tell changes within 32 bits on end. No program. The reference's model as values: states, and what each operation tells and leaves. No program. What crc.On and crc.Of return: the plain sum. What the reference's sum returns. What the reference's Of, Tag and Open return. What the reference's text, Most, Digest and find return. What the reference's find, without, with return at entries. -/
import Derived.Test.YtmapmeacjpoaoaaDoorPm06
import Derived.Test.YtmapmeacjpoaoaaDoorRows
import Derived.Deep.CutRange
import Derived.BigQuiet
import Derived.Deep.QuietTactic
namespace Go.Proofs.YtmapmeacjpoaoaaDoor

namespace S
theorem blt_self : ∀ a : List UInt8, blt a a = false
  | [] => rfl
  | x :: a => by simp [blt, Op.bytesLess, show Op.bytesLess a a = false from blt_self a]
theorem blt_trans : ∀ {a b c : List UInt8}, blt a b = true → blt b c = true → blt a c = true
  | _, [], _, h, _ => by simp [blt, Op.bytesLess] at h
  | _, _ :: _, [], _, h => by simp [blt, Op.bytesLess] at h
  | [], _ :: _, _ :: _, _, _ => rfl
  | x :: a, y :: b, z :: c, h, k => by
    simp only [blt, Op.bytesLess, Bool.or_eq_true, decide_eq_true_eq, Bool.and_eq_true, beq_iff_eq] at h k ⊢
    rcases h with h | ⟨rfl, h⟩
    · rcases k with k | ⟨rfl, k⟩
      · exact .inl (UInt8.lt_trans h k)
      · exact .inl h
    · rcases k with k | ⟨rfl, k⟩
      · exact .inl k
      · exact .inr ⟨rfl, blt_trans h k⟩
theorem blt_tri : ∀ a b : List UInt8, blt a b = true ∨ a = b ∨ blt b a = true
  | [], [] => .inr (.inl rfl)
  | [], _ :: _ => .inl rfl
  | _ :: _, [] => .inr (.inr rfl)
  | x :: a, y :: b => by
    simp only [blt, Op.bytesLess, Bool.or_eq_true, decide_eq_true_eq, Bool.and_eq_true, beq_iff_eq]
    rcases Nat.lt_trichotomy x.toNat y.toNat with h | h | h
    · exact .inl (.inl (UInt8.lt_iff_toNat_lt.2 h))
    · have e : x = y := UInt8.toNat_inj.1 h
      subst e
      rcases blt_tri a b with h | h | h
      · exact .inl (.inr ⟨rfl, h⟩)
      · exact .inr (.inl (by rw [h]))
      · exact .inr (.inr (.inr ⟨rfl, h⟩))
    · exact .inr (.inr (.inl (UInt8.lt_iff_toNat_lt.2 h)))

/-- How two rows stand. -/
def rcmp (a b : Rw) : Int := orI [ordS a.1 b.1, ordI a.2.1 b.2.1]
def rlt (a b : Rw) : Bool := decide (rcmp a b < 0)
theorem ordS_cases (a b : List UInt8) : (blt a b = true ∧ ordS a b = -1) ∨ (a = b ∧ ordS a b = 0) ∨ (blt b a = true ∧ a ≠ b ∧ blt a b = false ∧ ordS a b = 1) := by
  unfold ordS
  cases h : blt a b with
  | true => exact .inl ⟨rfl, rfl⟩
  | false =>
    rw [if_neg (by decide)]
    by_cases e : a = b
    · exact .inr (.inl ⟨e, if_pos e⟩)
    · rcases blt_tri a b with h' | h' | h'
      · rw [h] at h'; cases h'
      · exact absurd h' e
      · exact .inr (.inr ⟨h', e, rfl, if_neg e⟩)
theorem rlt_iff {a b : Rw} : rlt a b = true ↔ blt a.1 b.1 = true ∨ (a.1 = b.1 ∧ a.2.1 < b.2.1) := by
  have hz : (-1 : Int) ≠ 0 := by decide
  have ho : (1 : Int) ≠ 0 := by decide
  unfold rlt rcmp orI orI orI
  rw [decide_eq_true_eq]
  rcases ordS_cases a.1 b.1 with ⟨h1, e1⟩ | ⟨h1, e1⟩ | ⟨h1, h2, h3, e1⟩
  · rw [e1, if_neg hz]; simp [h1]
  · rw [e1, if_pos (rfl : (0 : Int) = 0)]
    have hb : blt a.1 b.1 = false := by rw [h1]; exact blt_self _
    simp only [h1, blt_self, Bool.false_eq_true, false_or, true_and]
    unfold ordI
    by_cases h2 : a.2.1 < b.2.1
    · rw [if_pos h2, if_neg hz]; omega
    · rw [if_neg h2]
      by_cases h3 : b.2.1 < a.2.1
      · rw [if_pos h3, if_neg ho]; omega
      · rw [if_neg h3, if_pos rfl]; omega
  · rw [e1, if_neg ho, h3]
    simp [h2]
theorem rlt_self (a : Rw) : rlt a a = false := by
  rw [Bool.eq_false_iff]; intro h
  rcases rlt_iff.1 h with h | h
  · rw [blt_self] at h; cases h
  · omega
theorem rlt_trans {a b c : Rw} (h : rlt a b = true) (k : rlt b c = true) : rlt a c = true := by
  rw [rlt_iff] at h k ⊢
  rcases h with h | ⟨h, h'⟩
  · rcases k with k | ⟨k, k'⟩
    · exact .inl (blt_trans h k)
    · exact .inl (k ▸ h)
  · rcases k with k | ⟨k, k'⟩
    · exact .inl (h ▸ k)
    · exact .inr ⟨h.trans k, by omega⟩
theorem rlt_asymm {a b : Rw} (h : rlt a b = true) : rlt b a = false := by
  rw [Bool.eq_false_iff]; intro k
  have := rlt_trans h k
  rw [rlt_self] at this; cases this
/-- If one stands ahead of another one, all others stand behind the first, or ahead of the other. -/
theorem rlt_either {a c : Rw} (h : rlt a c = true) (b : Rw) : rlt a b = true ∨ rlt b c = true := by
  rw [rlt_iff] at h
  rw [rlt_iff, rlt_iff]
  rcases blt_tri a.1 b.1 with k | k | k
  · exact .inl (.inl k)
  · rcases h with h | ⟨h, h'⟩
    · exact .inr (.inl (k ▸ h))
    · by_cases hl : a.2.1 < b.2.1
      · exact .inl (.inr ⟨k, hl⟩)
      · exact .inr (.inr ⟨k.symm.trans h, by omega⟩)
  · rcases h with h | ⟨h, h'⟩
    · exact .inr (.inl (blt_trans k h))
    · exact .inr (.inl (h ▸ k))

def eqv (a b : Rw) : Bool := !rlt a b && !rlt b a
theorem eqv_self (a : Rw) : eqv a a = true := by simp [eqv, rlt_self]
def Sorted (l : List Rw) : Prop := l.Pairwise fun a b => rlt b a = false
def Alike (l m : List Rw) : Prop := ∀ x, l.filter (eqv x) = m.filter (eqv x)
/-- m is l in order, of alike ones the first first. -/
structure IsSort (l m : List Rw) : Prop where
  sorted : Sorted m
  alike : Alike m l
theorem Alike.append {a b c d : List Rw} (h : Alike a b) (k : Alike c d) : Alike (a ++ c) (b ++ d) := fun x => by rw [List.filter_append, List.filter_append, h x, k x]
theorem Alike.refl (l : List Rw) : Alike l l := fun _ => rfl
theorem Alike.trans {a b c : List Rw} (h : Alike a b) (k : Alike b c) : Alike a c := fun x => (h x).trans (k x)
theorem Alike.symm {a b : List Rw} (h : Alike a b) : Alike b a := fun x => (h x).symm
theorem Alike.mem {a b : List Rw} (h : Alike a b) {x : Rw} (hx : x ∈ a) : x ∈ b := by
  have : x ∈ a.filter (eqv x) := List.mem_filter.2 ⟨hx, eqv_self x⟩
  rw [h x] at this
  exact (List.mem_filter.1 this).1
theorem Alike.count {a b : List Rw} (h : Alike a b) (x : Rw) : a.count x = b.count x := by
  have hc : ∀ l : List Rw, l.count x = (l.filter (eqv x)).count x := fun l => (List.count_filter (eqv_self x)).symm
  rw [hc a, hc b, h x]
theorem Alike.nil {a : List Rw} (h : Alike a []) : a = [] := by
  cases a with
  | nil => rfl
  | cons x a => exact absurd (h.mem (List.mem_cons_self)) (by simp)
theorem unique : ∀ {a b : List Rw}, Sorted a → Sorted b → Alike a b → a = b
  | [], b, _, _, h => (Alike.nil h.symm).symm
  | x :: a, [], _, _, h => Alike.nil h
  | x :: a, y :: b, ha, hb, h => by
    have hx : x ∈ y :: b := h.mem (List.mem_cons_self)
    have hy : y ∈ x :: a := h.symm.mem (List.mem_cons_self)
    have h1 : rlt x y = false := by
      rcases List.mem_cons.1 hx with e | e
      · rw [e]; exact rlt_self y
      · exact (List.pairwise_cons.1 hb).1 x e
    have h2 : rlt y x = false := by
      rcases List.mem_cons.1 hy with e | e
      · rw [e]; exact rlt_self x
      · exact (List.pairwise_cons.1 ha).1 y e
    have e : x = y := by
      have := h x
      rw [List.filter_cons, List.filter_cons, eqv_self, if_pos rfl, show eqv x y = true by simp [eqv, h1, h2], if_pos rfl] at this
      exact (List.cons.inj this).1
    subst e
    have ht : Alike a b := fun z => by
      have := h z
      rw [List.filter_cons, List.filter_cons] at this
      cases hz : eqv z x with
      | true => rw [hz, if_pos rfl, if_pos rfl] at this; exact (List.cons.inj this).2
      | false => rw [hz, if_neg (by decide), if_neg (by decide)] at this; exact this
    rw [unique (List.pairwise_cons.1 ha).2 (List.pairwise_cons.1 hb).2 ht]
theorem IsSort.eq {l a b : List Rw} (ha : IsSort l a) (hb : IsSort l b) : a = b := unique ha.sorted hb.sorted (ha.alike.trans hb.alike.symm)
theorem IsSort.len {l a : List Rw} (h : IsSort l a) : a.length = l.length := by
  have hp : a.Perm l := List.perm_iff_count.2 fun x => h.alike.count x
  exact hp.length_eq
end S
end Go.Proofs.YtmapmeacjpoaoaaDoor
namespace Go.Proofs.YtmapmeacjpoaoaaDoor
open Go Go.RowKit

abbrev rv (r : Rw) : Value := .agg #[.string (str r.1), .int .i64 r.2.1, .string (str r.2.2)]
/-- A block of three cells. -/
def BxR (w : World) (B : Nat) (t : TypeId) (c0 c1 c2 : Value) : Prop := w.heap[B]? = some (.cells #[c0, c1, c2] t (0, 0))
theorem BxR.lt {w : World} {B : Nat} {t : TypeId} {c0 c1 c2 : Value} (h : BxR w B t c0 c1 c2) : B < w.heap.size := (Array.getElem?_eq_some_iff.1 h).1
theorem BxR.later {w w' : World} {B : Nat} {t : TypeId} {c0 c1 c2 : Value} (h : BxR w B t c0 c1 c2) (hb : Below w.heap.size w w') : BxR w' B t c0 c1 c2 := (hb.block B h.lt).trans h
theorem BxR.cells {w : World} {B : Nat} {t : TypeId} {c0 c1 c2 : Value} (h : BxR w B t c0 c1 c2) : w.cell? ⟨B, 0, none⟩ = some c0 ∧ w.cell? ⟨B, 1, none⟩ = some c1 ∧ w.cell? ⟨B, 2, none⟩ = some c2 :=
  ⟨cell_of_row w B 0 _ _ (0, 0) h, cell_of_row w B 1 _ _ (0, 0) h, cell_of_row w B 2 _ _ (0, 0) h⟩

end Go.Proofs.YtmapmeacjpoaoaaDoor
namespace Go.Proofs.YtmapmeacjpoaoaaDoor
open Go Go.RowKit







abbrev Own (w : World) (base g n cap : Nat) (m : List Rw) : Prop := w.ownsRow base 100 3 (.slice (some ⟨g, 0, none⟩) n cap) n (RW.cells m)
theorem Own.cell {w : World} {base n cap g : Nat} {m : List Rw} (h : Own w base g n cap m) (j : Nat) (hj : j < m.length) :
    w.cell? ⟨g, j * 3, none⟩ = some (.string (str m[j].1)) ∧ w.cell? ⟨g, j * 3 + 1, none⟩ = some (.int .i64 m[j].2.1) ∧ w.cell? ⟨g, j * 3 + 2, none⟩ = some (.string (str m[j].2.2)) := Three.own_cell3 h j hj
/-- The world, a row set. -/
abbrev W1 (w : World) (g i : Nat) (y : Rw) : World := ((w.setCell ⟨g, i * 3, none⟩ (.string (str y.1))).setCell ⟨g, i * 3 + 1, none⟩ (.int .i64 y.2.1)).setCell ⟨g, i * 3 + 2, none⟩ (.string (str y.2.2))
end Go.Proofs.YtmapmeacjpoaoaaDoor
namespace Go.Proofs.YtmapmeacjpoaoaaDoor.S

theorem eqv_not {x y z : Rw} (h : rlt y x = true) (hz : eqv z x = true) : eqv z y = false := by
  simp only [eqv, Bool.and_eq_true, Bool.not_eq_true'] at hz
  rcases rlt_either h z with k | k
  · simp [eqv, k]
  · rw [hz.1] at k; cases k
/-- What stands ahead strictly may be set ahead. -/
theorem Alike.swap {u v : List Rw} (h : ∀ a ∈ u, ∀ b ∈ v, rlt b a = true) : Alike (v ++ u) (u ++ v) := fun x => by
  rw [List.filter_append, List.filter_append]
  by_cases hu : u.filter (eqv x) = []
  · rw [hu]; simp
  · have hv : v.filter (eqv x) = [] := by
      obtain ⟨a, ha⟩ := List.exists_mem_of_ne_nil _ hu
      obtain ⟨ha, hxa⟩ := List.mem_filter.1 ha
      rw [List.filter_eq_nil_iff]
      intro b hb
      rw [eqv_not (h a ha b hb) hxa]
      decide
    rw [hv]; simp
theorem sorted_append {a b : List Rw} : Sorted (a ++ b) ↔ Sorted a ∧ Sorted b ∧ ∀ x ∈ a, ∀ y ∈ b, rlt y x = false := List.pairwise_append
theorem IsSort.self {l : List Rw} (h : Sorted l) : IsSort l l := ⟨h, fun _ => rfl⟩
theorem IsSort.of_alike {l l' m : List Rw} (h : IsSort l m) (k : Alike l l') : IsSort l' m := ⟨h.sorted, h.alike.trans k⟩

/-- One behind the others, set into its place. -/
theorem one_right {x : Rw} {V W : List Rw} (hA : Sorted (V ++ W)) (hv : ∀ v ∈ V, rlt x v = false) (hw : ∀ y ∈ W, rlt x y = true) : IsSort ((V ++ W) ++ [x]) (V ++ x :: W) := by
  obtain ⟨h1, h2, h3⟩ := sorted_append.1 hA
  refine ⟨sorted_append.2 ⟨h1, List.pairwise_cons.2 ⟨fun y hy => rlt_asymm (hw y hy), h2⟩, fun v hv' y hy => ?_⟩, ?_⟩
  · rcases List.mem_cons.1 hy with rfl | hy
    · exact hv v hv'
    · exact h3 v hv' y hy
  · have := (Alike.refl V).append (Alike.swap (u := W) (v := [x]) (fun a ha b hb => by rw [List.mem_singleton.1 hb]; exact hw a ha))
    simpa using this

theorem lt_of_lt_not {a b c : Rw} (h : rlt a b = true) (k : rlt c b = false) : rlt a c = true := by
  rcases rlt_either h c with h' | h'
  · exact h'
  · rw [k] at h'; cases h'
end Go.Proofs.YtmapmeacjpoaoaaDoor.S
namespace Go.Proofs.YtmapmeacjpoaoaaDoor
open Go Go.RowKit

namespace S
theorem no_lt {x c v : Rw} (h : rlt x c = false) (k : rlt c v = false) : rlt x v = false := by
  rw [Bool.eq_false_iff]; intro hlt
  rcases rlt_either hlt c with h' | h'
  · rw [h] at h'; cases h'
  · rw [k] at h'; cases h'
/-- One more in its place. -/
theorem ins_step {A1 C1 C2 : List Rw} {x : Rw} (hs : IsSort A1 (C1 ++ C2)) (h2 : ∀ y ∈ C2, rlt x y = true) (h1 : ∀ D y, C1 = D ++ [y] → rlt x y = false) : IsSort (A1 ++ [x]) (C1 ++ x :: C2) := by
  refine (one_right hs.sorted ?_ h2).of_alike (hs.alike.append (Alike.refl [x]))
  intro v hv
  rcases List.eq_nil_or_concat C1 with rfl | ⟨D, y, rfl⟩
  · cases hv
  · have hy := h1 D y (by simp)
    rcases List.mem_append.1 (by simpa using hv : v ∈ D ++ [y]) with h | h
    · obtain ⟨h3, -, -⟩ := sorted_append.1 hs.sorted
      have h4 := (sorted_append.1 (by simpa using h3 : Sorted (D ++ [y]))).2.2 v h y (by simp)
      exact no_lt hy h4
    · rw [List.mem_singleton.1 h]; exact hy
end S

end Go.Proofs.YtmapmeacjpoaoaaDoor
namespace Go.Proofs.YtmapmeacjpoaoaaDoor
open Go Go.RowKit

theorem infoRw : (Tryd.prog.info? 100).map (fun i => (i.zero, i.size, i.bytes)) = some (some (.agg #[.string (str []), .int .i64 0, .string (str [])]), 3, 40) := by kernel_rfl
theorem rw_oneCell (l : List Rw) : ∀ u ∈ RW.cells l, u.oneCell' = true := by
  intro u hu
  obtain ⟨g, -, h⟩ := List.mem_flatMap.1 hu
  simp only [List.mem_cons, List.not_mem_nil, or_false] at h
  rcases h with rfl | rfl | rfl <;> rfl
abbrev Rs (w : World) (v : Value) (l : List Rw) : Prop := RW.Ss w v l

namespace S
end S

end Go.Proofs.YtmapmeacjpoaoaaDoor
namespace Go.Proofs.YtmapmeacjpoaoaaDoor
open Go Go.RowKit

namespace S
/-- C is put together of what is ahead of o2 and m2. -/
structure Mer (o m C o2 m2 : List Rw) : Prop where
  alike : Alike (C ++ (o2 ++ m2)) (o ++ m)
  sorted : Sorted C
  so : Sorted o2
  sm : Sorted m2
  le : ∀ x ∈ C, ∀ y ∈ o2 ++ m2, rlt y x = false
theorem Mer.right {o m C o3 m3 : List Rw} {x y : Rw} (h : Mer o m C (x :: o3) (y :: m3)) (hlt : rlt y x = true) : Mer o m (C ++ [y]) (x :: o3) m3 := by
  have ho := List.pairwise_cons.1 h.so
  have hm := List.pairwise_cons.1 h.sm
  have hy : ∀ a ∈ x :: o3, rlt y a = true := fun a ha => by
    rcases List.mem_cons.1 ha with rfl | ha
    · exact hlt
    · exact lt_of_lt_not hlt (ho.1 a ha)
  refine ⟨?_, sorted_append.2 ⟨h.sorted, List.pairwise_singleton _ _, fun c hc z hz => ?_⟩, h.so, hm.2, fun c hc z hz => ?_⟩
  · have h1 : Alike ([y] ++ (x :: o3)) ((x :: o3) ++ [y]) := Alike.swap fun a ha b hb => by rw [List.mem_singleton.1 hb]; exact hy a ha
    have h2 := (Alike.refl C).append (h1.append (Alike.refl m3))
    refine Alike.trans ?_ h.alike
    simpa using h2
  · rw [List.mem_singleton.1 hz]
    exact h.le c hc y (by simp)
  · rcases List.mem_append.1 hc with hc | hc
    · refine h.le c hc z ?_
      rcases List.mem_append.1 hz with hz | hz
      · exact List.mem_append_left _ hz
      · exact List.mem_append_right _ (List.mem_cons_of_mem _ hz)
    · rw [List.mem_singleton.1 hc]
      rcases List.mem_append.1 hz with hz | hz
      · exact rlt_asymm (hy z hz)
      · exact hm.1 z hz
theorem Mer.left {o m C o3 m3 : List Rw} {x y : Rw} (h : Mer o m C (x :: o3) (y :: m3)) (hlt : rlt y x = false) : Mer o m (C ++ [x]) o3 (y :: m3) := by
  have ho := List.pairwise_cons.1 h.so
  have hm := List.pairwise_cons.1 h.sm
  refine ⟨?_, sorted_append.2 ⟨h.sorted, List.pairwise_singleton _ _, fun c hc z hz => ?_⟩, ho.2, h.sm, fun c hc z hz => ?_⟩
  · have := h.alike
    simpa using this
  · rw [List.mem_singleton.1 hz]
    exact h.le c hc x (by simp)
  · rcases List.mem_append.1 hc with hc | hc
    · refine h.le c hc z ?_
      rcases List.mem_append.1 hz with hz | hz
      · exact List.mem_append_left _ (List.mem_cons_of_mem _ hz)
      · exact List.mem_append_right _ hz
    · rw [List.mem_singleton.1 hc]
      rcases List.mem_append.1 hz with hz | hz
      · exact ho.1 z hz
      · rcases List.mem_cons.1 hz with rfl | hz
        · exact hlt
        · exact no_lt (hm.1 z hz) hlt
end S

theorem ite_yes {c A B : Prop} [Decidable c] (hc : c) (h : A) : if c then A else B := by rw [if_pos hc]; exact h
theorem Rs.sl {w : World} {v : Value} {l : List Rw} {n : Nat} (h : Rs w v l) (hn : l.length = n) : Sl w 3 n v (RW.cells l) := by
  subst hn
  exact h
end Go.Proofs.YtmapmeacjpoaoaaDoor
namespace Go.Proofs.YtmapmeacjpoaoaaDoor
open Go Go.RowKit

/-- The value v reads as the lists of rows. -/
def Vs (w : World) (v : Value) (rows : List (List Rw)) : Prop := ∃ us : List Value, Sl w 1 rows.length v us ∧ ∀ i (h : i < us.length) (h2 : i < rows.length), Rs w us[i] rows[i]
theorem Vs.shape {w : World} {v : Value} {rows : List (List Rw)} (h : Vs w v rows) : ∃ ao cap, v = .slice ao rows.length cap ∧ rows.length ≤ cap := by
  obtain ⟨us, h1, -⟩ := h
  exact h1.shape
theorem Vs.len {w : World} {v : Value} {rows : List (List Rw)} (h : Vs w v rows) : rows.length ≤ 9223372036854775807 := by
  obtain ⟨us, ⟨_, ao, cap, _, h1, h2, _⟩, -⟩ := h
  unfold maxLen at h2
  omega
theorem Vs.at {w : World} {ao : Option Addr} {n cap : Nat} {rows : List (List Rw)} (h : Vs w (.slice ao n cap) rows) {j : Nat} (hj : j < rows.length) :
    ∃ b off u, ao = some ⟨b, off, none⟩ ∧ Rs w u rows[j] ∧ ∀ W, Below w.heap.size w W → W.cell? ⟨b, off + j, none⟩ = some u := by
  obtain ⟨us, h1, h2⟩ := h
  have hl : us.length = rows.length := by rw [h1.1, Nat.mul_one]
  obtain ⟨b, off, e, hc⟩ := h1.at (j := j) (by omega)
  subst e
  refine ⟨b, off, us[j], rfl, h2 j (by omega) hj, fun W hW => ?_⟩
  obtain ⟨b', off', e, hc⟩ := (h1.below hW).at (j := j) (by omega)
  obtain ⟨rfl, rfl⟩ : b = b' ∧ off = off' := by simpa using e
  exact hc j (by omega)
namespace S
theorem flat_step {α : Type} {rows : List (List α)} {i : Nat} (h : i < rows.length) : (rows.take (i + 1)).flatten = (rows.take i).flatten ++ rows[i] := by
  rw [List.take_succ_eq_append_getElem h, List.flatten_append]; simp only [List.flatten_cons, List.flatten_nil, List.append_nil]
theorem flat_len {α : Type} {rows : List (List α)} {i : Nat} (h : i < rows.length) : (rows.take i).flatten.length + rows[i].length ≤ rows.flatten.length := by
  have e : rows.flatten = (rows.take i).flatten ++ (rows.drop i).flatten := by rw [← List.flatten_append, List.take_append_drop]
  rw [e, List.drop_eq_getElem_cons h, List.flatten_cons]
  simp only [List.length_append]
  omega
/-- How many are returned. -/
def upto (most : Int) (n : Nat) : Nat := min most.toNat n
end S

end Go.Proofs.YtmapmeacjpoaoaaDoor
namespace Go.Proofs.YtmapmeacjpoaoaaDoor
open Go Go.RowKit

set_option maxHeartbeats 1000000 in
theorem refLessR_any (g h : Rw) (w : World) : Calls Tryd.prog 72 #[rv g, rv h] w fun e w' => e = .returned (.bool (S.rlt g h)) ∧ Below w.heap.size w w' := by
  have hi := @S.rlt_iff g h
  obtain ⟨a0, a1, a2⟩ := g
  obtain ⟨b0, b1, b2⟩ := h
  simp only [] at hi
  have hb1 := (((Below.refl w.heap.size w).alloc (Nat.le_refl _) (.cells #[.string (str a0), .int .i64 a1, .string (str a2)] 100)).alloc (by simp) (.cells #[.string (str b0), .int .i64 b1, .string (str b2)] 100))
  cases h1 : blt a0 b0 with
  | true =>
    have h1' : Op.bytesLess a0 b0 = true := h1
    have hr : S.rlt (a0, a1, a2) (b0, b1, b2) = true := hi.2 (.inl h1)
    rw [hr]
    clear hr h1 hi
    go_enter Tryd.func72, Tryd.ntmps72
    go_wp2_with fail
    go_ret
    exact ⟨rfl, hb1⟩
  | false =>
    have h1' : Op.bytesLess a0 b0 = false := h1
    by_cases h2 : a0 = b0
    · have h2' : (a0 == b0) = true := by simp [h2]
      by_cases h3 : a1 < b1
      · have d3 : decide (a1 < b1) = true := by simp [h3]
        have hr : S.rlt (a0, a1, a2) (b0, b1, b2) = true := hi.2 (.inr ⟨h2, h3⟩)
        rw [hr]
        clear hr h1 hi h2 h3
        go_enter Tryd.func72, Tryd.ntmps72
        go_wp2_with fail
        go_ret
        exact ⟨rfl, hb1⟩
      · have d3 : decide (a1 < b1) = false := by simp [h3]
        have hr : S.rlt (a0, a1, a2) (b0, b1, b2) = false := by
          rw [Bool.eq_false_iff]; intro hx
          rcases hi.1 hx with k | ⟨-, k⟩
          · rw [h1] at k; cases k
          · exact h3 k
        rw [hr]
        clear hr h1 hi h2 h3
        go_enter Tryd.func72, Tryd.ntmps72
        go_wp2_with fail
        go_ret
        exact ⟨rfl, hb1⟩
    · have h2' : (a0 == b0) = false := by simp [h2]
      have hr : S.rlt (a0, a1, a2) (b0, b1, b2) = false := by
        rw [Bool.eq_false_iff]; intro hx
        rcases hi.1 hx with k | ⟨k, -⟩
        · rw [h1] at k; cases k
        · exact h2 k
      rw [hr]
      clear hr h1 hi h2
      go_enter Tryd.func72, Tryd.ntmps72
      go_wp2_with fail
      go_ret
      exact ⟨rfl, hb1⟩
end Go.Proofs.YtmapmeacjpoaoaaDoor
namespace Go.Proofs.YtmapmeacjpoaoaaDoor
open Go Go.RowKit

theorem rs_take {w : World} {ao : Option Addr} {n cap : Nat} {l : List Rw} (h : Rs w (.slice ao n cap) l) (hn : l.length = n) (kl : IntKind) (k : Nat) (hk : k ≤ n) :
    ∃ v', Sl w 3 k v' (RW.cells (l.take k)) ∧ ∀ W, (Instr.slice 40 (.slice ao n cap) none (some (.int kl k)) none).run Tryd.prog W = .ok v' W := by
  obtain ⟨v', h1, h2⟩ := run_take (P := Tryd.prog) (t := 40) Tryd.underlying40 infoRw (h.sl hn) kl k hk
  rw [RW.cells_take] at h1
  exact ⟨v', h1, h2⟩
theorem rs_drop {w : World} {ao : Option Addr} {n cap : Nat} {l : List Rw} (h : Rs w (.slice ao n cap) l) (hn : l.length = n) (kl : IntKind) (k : Nat) (hk : k ≤ n) :
    ∃ v', Sl w 3 (n - k) v' (RW.cells (l.drop k)) ∧ ∀ W, (Instr.slice 40 (.slice ao n cap) (some (.int kl k)) none none).run Tryd.prog W = .ok v' W := by
  obtain ⟨v', h1, h2⟩ := run_drop (P := Tryd.prog) (t := 40) Tryd.underlying40 infoRw (h.sl hn) kl k hk
  rw [RW.cells_drop] at h1
  exact ⟨v', h1, h2⟩
/-- Where row k lies, in every later world. -/
theorem Rs.at {w : World} {ao : Option Addr} {n cap : Nat} {l : List Rw} (h : Rs w (.slice ao n cap) l) {k : Nat} (hk : k < l.length) :
    ∃ b off, ao = some ⟨b, off, none⟩ ∧ ∀ W, Below w.heap.size w W → W.cell? ⟨b, off + k * 3, none⟩ = some (.string (str l[k].1)) ∧ W.cell? ⟨b, off + k * 3 + 1, none⟩ = some (.int .i64 l[k].2.1) ∧ W.cell? ⟨b, off + k * 3 + 2, none⟩ = some (.string (str l[k].2.2)) := by
  obtain ⟨b, off, rfl, -⟩ := Three.Ss.at h hk
  refine ⟨b, off, rfl, fun W hW => ?_⟩
  obtain ⟨b', off', e, hc⟩ := Three.Ss.at (Three.Ss.below h hW) hk
  obtain ⟨rfl, rfl⟩ : b = b' ∧ off = off' := by simpa using e
  exact hc k hk
theorem S.ins_at {A C : List Rw} {x : Rw} (j : Nat) (hs : S.IsSort A C) (h2 : ∀ y ∈ C.drop j, S.rlt x y = true) (h1 : ∀ q (_ : q + 1 = j) (h : q < C.length), S.rlt x C[q] = false) (hj : j ≤ C.length) : S.IsSort (A ++ [x]) (C.take j ++ x :: C.drop j) := by
  refine S.ins_step (by rw [List.take_append_drop]; exact hs) h2 fun D y hD => ?_
  have hl : D.length + 1 = j := by
    have := congrArg List.length hD
    rw [List.length_take, List.length_append] at this
    simp at this
    omega
  have h := h1 D.length hl (by omega)
  have e : C[D.length]'(by omega) = y := by
    have h3 : (C.take j)[D.length]'(by rw [List.length_take]; omega) = y := by
      simp only [hD]
      rw [List.getElem_append_right (Nat.le_refl _)]
      simp
    rw [← h3, List.getElem_take]
  rw [e] at h
  exact h
theorem S.drop_all {C : List Rw} {x : Rw} {q : Nat} (h : q < C.length) (h1 : S.rlt x C[q] = true) (h2 : ∀ y ∈ C.drop (q + 1), S.rlt x y = true) : ∀ y ∈ C.drop q, S.rlt x y = true := by
  rw [List.drop_eq_getElem_cons h]
  intro y hy
  rcases List.mem_cons.1 hy with rfl | hy
  · exact h1
  · exact h2 y hy

end Go.Proofs.YtmapmeacjpoaoaaDoor
namespace Go.Proofs.YtmapmeacjpoaoaaDoor.C

def poly : Nat := 3988292384
def top : Nat := 4294967295
def step1 (x : Nat) : Nat := if x % 2 = 1 then x / 2 ^^^ poly else x / 2
def stepN : Nat → Nat → Nat
  | 0, x => x
  | n + 1, x => stepN n (step1 x)
def upd (x : Nat) (c : UInt8) : Nat := stepN 8 (x ^^^ c.toNat)
def run (x : Nat) (l : List UInt8) : Nat := l.foldl upd x
def on (s : Nat) (l : List UInt8) : Nat := top - run (top - s) l
def of (l : List UInt8) : Nat := on 0 l
theorem step1_lt {x : Nat} (h : x < 4294967296) : step1 x < 4294967296 := by
  unfold step1
  split
  · exact Nat.xor_lt_two_pow (n := 32) (by omega) (by decide)
  · omega
theorem stepN_lt : ∀ (n : Nat) {x : Nat}, x < 4294967296 → stepN n x < 4294967296
  | 0, _, h => h
  | n + 1, _, h => stepN_lt n (step1_lt h)
theorem xor_lt {x y : Nat} (hx : x < 4294967296) (hy : y < 4294967296) : x ^^^ y < 4294967296 := Nat.xor_lt_two_pow (n := 32) hx hy
theorem byte_lt (c : UInt8) : c.toNat < 4294967296 := by have := c.toNat_lt; omega
theorem upd_lt {x : Nat} (h : x < 4294967296) (c : UInt8) : upd x c < 4294967296 := stepN_lt 8 (xor_lt h (byte_lt c))
theorem run_lt : ∀ (l : List UInt8) {x : Nat}, x < 4294967296 → run x l < 4294967296
  | [], _, h => h
  | c :: l, _, h => run_lt l (upd_lt h c)
theorem run_snoc (x : Nat) (l : List UInt8) (c : UInt8) : run x (l ++ [c]) = upd (run x l) c := by simp [run]
theorem xor_mod2 (a b : Nat) : (a ^^^ b) % 2 = (a % 2 + b % 2) % 2 := by
  have : (a ^^^ b) % 2 ^ 1 = (a % 2 ^ 1) ^^^ (b % 2 ^ 1) := Nat.xor_mod_two_pow
  simp only [Nat.pow_one] at this
  rw [this]
  rcases Nat.mod_two_eq_zero_or_one a with h | h <;> rcases Nat.mod_two_eq_zero_or_one b with k | k <;> rw [h, k] <;> rfl
theorem xor_div2 (a b : Nat) : (a ^^^ b) / 2 = a / 2 ^^^ b / 2 := by
  have : (a ^^^ b) / 2 ^ 1 = (a / 2 ^ 1) ^^^ (b / 2 ^ 1) := Nat.xor_div_two_pow
  simpa using this

theorem step1_xor (a b : Nat) : step1 (a ^^^ b) = step1 a ^^^ step1 b := by
  unfold step1
  rw [xor_mod2, xor_div2]
  rcases Nat.mod_two_eq_zero_or_one a with h | h <;> rcases Nat.mod_two_eq_zero_or_one b with k | k <;> simp only [h, k]
  · rfl
  · simp [Nat.xor_assoc]
  · simp only [if_true]
    simp only [show ¬ ((0 : Nat) = 1) from by decide, if_false]
    rw [Nat.xor_assoc, Nat.xor_comm (b / 2), Nat.xor_assoc]
  · simp only [show ¬ ((1 + 1) % 2 = 1) from by decide, if_true, if_false]
    rw [Nat.xor_comm (b / 2) poly, Nat.xor_assoc, ← Nat.xor_assoc poly poly, Nat.xor_self, Nat.zero_xor]
theorem stepN_xor : ∀ (n a b : Nat), stepN n (a ^^^ b) = stepN n a ^^^ stepN n b
  | 0, _, _ => rfl
  | n + 1, a, b => by simp only [stepN, step1_xor, stepN_xor n]
theorem stepN_add : ∀ (m n x : Nat), stepN (m + n) x = stepN n (stepN m x)
  | 0, n, x => by simp [stepN]
  | m + 1, n, x => by rw [Nat.add_right_comm]; simp only [stepN]; exact stepN_add m n _

/-- The bytes as one number, the first the lowest. -/
def val : List UInt8 → Nat
  | [] => 0
  | c :: l => c.toNat + 256 * val l
/-- What of a turn has been done: the bytes m are l with a number's bits turned. -/
def Turned (l m : List UInt8) (v : Nat) : Prop := ∃ d : List UInt8, d.length = l.length ∧ m = l.zipWith (· ^^^ ·) d ∧ val d = v
theorem Turned.length {l m : List UInt8} {v : Nat} (h : Turned l m v) : m.length = l.length := by
  obtain ⟨d, h1, rfl, -⟩ := h
  simp [h1]
end Go.Proofs.YtmapmeacjpoaoaaDoor.C
namespace Go.Proofs.YtmapmeacjpoaoaaDoor
open Go Go.RowKit

/-- An entry: bucket, key, value. -/
abbrev En : Type := List UInt8 × List UInt8 × List UInt8
/-- A session: level, number, snapshots, how many it ever had, whether it is gone. -/
structure Ses5 (κ : Type) where
  level : Int
  n : Int
  last : Int
  gone : Bool
  snaps : κ
abbrev Ses : Type := Ses5 (List Int)
def Ses5.put {κ μ : Type} (s : Ses5 κ) (u : μ) : Ses5 μ := ⟨s.level, s.n, s.last, s.gone, u⟩
/-- A snapshot. -/
structure Snp4 (κ : Type) where
  level : Int
  n : Int
  snap : Int
  l : κ
abbrev Snp : Type := Snp4 (List (List En))
def Snp4.put {κ μ : Type} (s : Snp4 κ) (u : μ) : Snp4 μ := ⟨s.level, s.n, s.snap, u⟩
/-- A record. -/
structure Rec where
  actor : Int
  fro : Int
  dst : Int
  bucket : List UInt8
  key : List UInt8
  digest : Nat
deriving DecidableEq
/-- A state. -/
structure St where
  L : List (List En)
  au : List (List Rec)
  has : List Int
  dr : List (List En)
  ses : List Ses
  sn : List Snp
/-- A result. -/
structure Res4 (κ μ : Type) where
  e : Int
  n : Int
  rows : κ
  recs : μ
abbrev Res : Type := Res4 (List Rw) (List Rec)
def Res4.put {κ μ ρ σ : Type} (r : Res4 κ μ) (a : ρ) (b : σ) : Res4 ρ σ := ⟨r.e, r.n, a, b⟩

namespace M
def hit (b k : List UInt8) (e : En) : Bool := (e.1 == b) && (e.2.1 == k)
def find (l : List En) (b k : List UInt8) : Int := match l.findIdx? (hit b k) with | some i => (i : Int) | none => -1
def kept (b k : List UInt8) (e : En) : Bool := !(e.1 == b) || (!k.isEmpty && !(e.2.1 == k))
def without (l : List En) (b k : List UInt8) : List En := l.filter (kept b k)
def ins (e : En) (done : Bool) (x : En) : Bool := !done && ((!blt x.1 e.1 && !(x.1 == e.1)) || ((x.1 == e.1) && !blt x.2.1 e.2.1))
def other (e x : En) : Bool := !(x.1 == e.1) || !(x.2.1 == e.2.1)
def wstep (e : En) (s : List En × Bool) (x : En) : List En × Bool :=
  ((s.1 ++ (if ins e s.2 x then [e] else [])) ++ (if other e x then [x] else []), s.2 || ins e s.2 x)
def wfold (e : En) (l : List En) : List En × Bool := l.foldl (wstep e) ([], false)
def with_ (l : List En) (e : En) : List En := (wfold e l).1 ++ (if (wfold e l).2 then [] else [e])

def isS (level n : Int) (s : Ses) : Bool := ((s.level == level) && (s.n == n)) && !s.gone
def sfind (l : List Ses) (level n : Int) : Int := match l.findIdx? (isS level n) with | some i => (i : Int) | none => -1
def openN (l : List Ses) (level : Int) : Int := 1 + ((l.countP fun s => s.level == level : Nat) : Int)
def openS (l : List Ses) (level : Int) : List Ses := l ++ [⟨level, openN l level, 0, false, []⟩]
def close (l : List Ses) (level n : Int) : List Ses := match l.findIdx? (isS level n) with | some i => l.set i ⟨level, n, 0, true, []⟩ | none => l
def more (s : Ses) : Ses := ⟨s.level, s.n, s.last + 1, s.gone, s.snaps ++ [s.last + 1]⟩
def snapS (l : List Ses) (level n : Int) : List Ses := match l.findIdx? (isS level n) with | some i => l.modify i more | none => l
def snapN (l : List Ses) (level n : Int) : Int := match l.findIdx? (isS level n) with | some i => (match l[i]? with | some s => s.last + 1 | none => 0) | none => 0
def left (snap : Int) (s : Ses) : List Int := s.snaps.filter (· != snap)
def less (snap : Int) (s : Ses) : Ses := ⟨s.level, s.n, s.last, s.gone, left snap s⟩
def snapsOf (l : List Ses) (level n : Int) : List Int := match l.findIdx? (isS level n) with | some i => (match l[i]? with | some s => s.snaps | none => []) | none => []
def had (l : List Ses) (level n snap : Int) : Bool := match l.findIdx? (isS level n) with | some i => (match l[i]? with | some s => (left snap s).length != s.snaps.length | none => false) | none => false
def unsnapS (l : List Ses) (level n snap : Int) : List Ses := if had l level n snap then (match l.findIdx? (isS level n) with | some i => l.modify i (less snap) | none => l) else l

def isP (o : Opr) (p : Snp) : Bool := ((p.level == o.level) && (p.n == o.ses)) && (p.snap == o.snap)
def seesOwn (m : St) (o : Opr) (x : Nat) : List En := if ((x : Int) == o.level) && (m.has.getD x 0 == o.ses) then m.dr.getD x [] else m.L.getD x []
def sees (m : St) (o : Opr) (x : Nat) : List En := if o.snap != 0 then (match m.sn.find? (isP o) with | some p => p.l.getD x [] | none => seesOwn m o x) else seesOwn m o x
def has (m : St) (o : Opr) : Bool := (snapsOf m.ses o.level o.ses).any (· == o.snap)

def inB (o : Opr) (e : En) : Bool := !(!(e.1 == o.bucket) || e.2.1.isEmpty)
def allOf (o : Opr) (x : Nat) (l : List En) : List Rw := (l.filter fun e => inB o e && (e.2.1 == o.key)).map fun e => (o.key, (x : Int), e.2.2)
def ownOf (o : Opr) (x : Nat) (l : List En) : List Rw := (l.filter fun e => inB o e && !(blt e.2.1 o.key)).map fun e => (e.2.1, (x : Int), e.2.2)
/-- What a reading has found: whether the bucket is there, the rows by labels, the rows of the key. -/
structure Rd where
  some : Bool
  rows : List (List Rw)
  all : List Rw
def rstep (us : List Nat) (m : St) (o : Opr) (s : Rd) (x : Nat) : Rd :=
  if L.leq us (x : Int) o.level then ⟨s.some || decide (0 ≤ find (sees m o x) o.bucket []), s.rows ++ [ownOf o x (sees m o x)], s.all ++ allOf o x (sees m o x)⟩ else s
def rfold (us : List Nat) (m : St) (o : Opr) (k : Nat) : Rd := (List.range k).foldl (rstep us m o) ⟨false, [], []⟩

open Classical in
noncomputable def sorted (l : List Rw) : List Rw := if h : ∃ C, S.IsSort l C then h.choose else []
noncomputable def union (rows : List (List Rw)) (most : Int) : List Rw := (sorted rows.flatten).take (S.upto most (sorted rows.flatten).length)
def most (n : Int) : Int := if n < 0 then 0 else if 50 < n then 50 else n

def bad (e : Int) : Res := ⟨e, 0, [], []⟩
def ok : Res := ⟨0, 0, [], []⟩
noncomputable def read (us : List Nat) (m : St) (o : Opr) : Res :=
  if o.snap != 0 && !(has m o) then bad 39
  else if !(rfold us m o us.length).some then bad 32
  else if o.kind = 10 then ⟨0, 0, union (rfold us m o us.length).rows (most o.n), []⟩
  else if (rfold us m o us.length).all.length = 0 then bad 33
  else ⟨0, 0, (rfold us m o us.length).all, []⟩

def text (s : List UInt8) (k : Nat) : Bool := !s.isEmpty && decide (s.length ≤ k)
/-- What a write is refused with; 0: nothing. -/
def wbad (m : St) (o : Opr) : Int :=
  let l := m.dr.getD o.level.toNat []
  if m.has.getD o.level.toNat 0 != o.ses then 35
  else if (decide (o.kind = 5) && !(text o.bucket 15)) || (decide (o.kind = 7) && (!(text o.key 16) || decide (400 < o.val.length))) then 34
  else if decide (o.kind = 5) && decide (0 ≤ find l o.bucket []) then 38
  else if !(decide (o.kind = 5)) && !(decide (0 ≤ find l o.bucket [])) then 32
  else if decide (o.kind = 8) && (!(text o.key 16) || decide (find l o.bucket o.key < 0)) then 33
  else 0
def wnew (l : List En) (o : Opr) : List En :=
  if o.kind = 5 then with_ l (o.bucket, [], []) else if o.kind = 6 then without l o.bucket [] else if o.kind = 7 then with_ l (o.bucket, o.key, o.val) else without l o.bucket o.key
def write (m : St) (o : Opr) : Res × St :=
  if wbad m o = 0 then (ok, { m with dr := m.dr.set o.level.toNat (wnew (m.dr.getD o.level.toNat []) o) }) else (bad (wbad m o), m)

def dbad (us : List Nat) (gs : List Gr) (m : St) (o : Opr) : Int :=
  if !(L.leq us o.label o.level) || (!(L.leq us o.to o.level) || !(gs.contains (o.level, o.label, o.to))) then 31
  else if 0 < m.has.getD o.to.toNat 0 then 36
  else if find (m.L.getD o.label.toNat []) o.bucket [] < 0 then 32
  else if find (m.L.getD o.label.toNat []) o.bucket o.key < 0 || o.key.isEmpty then 33
  else if find (m.L.getD o.to.toNat []) o.bucket [] < 0 then 32
  else 0
def dval (m : St) (o : Opr) : List UInt8 := ((m.L.getD o.label.toNat []).getD (find (m.L.getD o.label.toNat []) o.bucket o.key).toNat ([], [], [])).2.2
def drec (m : St) (o : Opr) : Rec := ⟨o.level, o.label, o.to, o.bucket, o.key, C.of (dval m o)⟩
def declassify (us : List Nat) (gs : List Gr) (m : St) (o : Opr) : Res × St :=
  if dbad us gs m o = 0 then
    (⟨0, ((m.au.getD o.to.toNat []).length : Int), [], []⟩,
     { m with L := m.L.set o.to.toNat (with_ (m.L.getD o.to.toNat []) (o.bucket, o.key, dval m o)), au := m.au.set o.to.toNat (m.au.getD o.to.toNat [] ++ [drec m o]) })
  else (bad (dbad us gs m o), m)

def snap (m : St) (o : Opr) : Res × St :=
  if o.kind = 12 then (if had m.ses o.level o.ses o.snap then ok else bad 39, { m with ses := unsnapS m.ses o.level o.ses o.snap })
  else (⟨0, snapN m.ses o.level o.ses, [], []⟩, { m with ses := snapS m.ses o.level o.ses, sn := m.sn ++ [⟨o.level, o.ses, snapN m.ses o.level o.ses, m.L⟩] })

def txn (m : St) (o : Opr) : Res × St :=
  let x := o.level.toNat
  let own := m.has.getD x 0 == o.ses
  if o.kind = 2 then (if 0 < m.has.getD x 0 then (bad 36, m) else (ok, { m with has := m.has.set x o.ses, dr := m.dr.set x (m.L.getD x []) }))
  else if o.kind != 1 && !own then (bad 35, m)
  else (ok, { m with
    ses := if o.kind = 1 then close m.ses o.level o.ses else m.ses
    L := if own && decide (o.kind = 3) then m.L.set x (m.dr.getD x []) else m.L
    has := if own then m.has.set x 0 else m.has })

def crash (m : St) (o : Opr) : Res × St :=
  let x := o.level.toNat
  (ok, { m with
    L := if decide (0 < o.ses) && (decide (0 ≤ o.level) && (decide (o.level < m.L.length) && (m.has.getD x 0 == o.ses))) then m.L.set x (m.dr.getD x []) else m.L
    ses := []
    sn := []
    has := List.replicate m.L.length 0 })

def look (us : List Nat) (m : St) (o : Opr) : Res :=
  if !(L.leq us o.label o.level) then bad 31
  else if o.kind = 13 then ok
  else ⟨0, 0, [], (((m.au.getD o.label.toNat []).drop o.n.toNat).take 50)⟩

def check (n : Nat) (o : Opr) : Bool := (decide (0 ≤ o.kind) && decide (o.kind ≤ 16)) && (decide (o.kind = 16) || (decide (0 ≤ o.level) && decide (o.level < n)))

noncomputable def do_ (us : List Nat) (gs : List Gr) (m : St) (o : Opr) : Res × St :=
  if !(check us.length o) then (bad 40, m)
  else if o.kind = 0 then (⟨0, openN m.ses o.level, [], []⟩, { m with ses := openS m.ses o.level })
  else if o.kind = 16 then crash m o
  else if sfind m.ses o.level o.ses < 0 then (bad 30, m)
  else if o.kind = 9 ∨ o.kind = 10 then (read us m o, m)
  else if o.kind = 11 ∨ o.kind = 12 then snap m o
  else if o.kind = 13 ∨ o.kind = 14 then (look us m o, m)
  else if o.kind = 15 then declassify us gs m o
  else if o.kind = 5 ∨ o.kind = 6 ∨ o.kind = 7 ∨ o.kind = 8 then write m o
  else txn m o

def new (n : Nat) : St := ⟨List.replicate n [], List.replicate n [], List.replicate n 0, List.replicate n [], [], []⟩

/-- So much at most is in a state of so many labels. -/
structure Few (n k : Nat) (m : St) : Prop where
  nL : m.L.length = n
  nau : m.au.length = n
  nhas : m.has.length = n
  ndr : m.dr.length = n
  kL : ∀ l ∈ m.L, l.length ≤ k ∧ ∀ e ∈ l, e.2.2.length ≤ 400
  kdr : ∀ l ∈ m.dr, l.length ≤ k ∧ ∀ e ∈ l, e.2.2.length ≤ 400
  kau : ∀ l ∈ m.au, l.length ≤ k
  kses : m.ses.length ≤ k
  ksn : m.sn.length ≤ k
  one : ∀ s ∈ m.ses, s.snaps.length ≤ k ∧ 0 ≤ s.last ∧ s.last ≤ k
  psn : ∀ p ∈ m.sn, p.l.length = n ∧ ∀ l ∈ p.l, l.length ≤ k ∧ ∀ e ∈ l, e.2.2.length ≤ 400
end M
end Go.Proofs.YtmapmeacjpoaoaaDoor
namespace Go.Proofs.YtmapmeacjpoaoaaDoor
open Go Go.RowKit

theorem xor_byte (x : Nat) (hx : x < 4294967296) (c : UInt8) : bits BinOp.xor IntKind.u32 (x : Int) (c.toNat : Int) = ((x ^^^ c.toNat : Nat) : Int) :=
  u32_xor_nat _ _ hx (C.byte_lt c)

end Go.Proofs.YtmapmeacjpoaoaaDoor
namespace Go.Proofs.YtmapmeacjpoaoaaDoor
open Go Go.RowKit

theorem stepN_succ' (n x : Nat) : C.stepN (n + 1) x = C.step1 (C.stepN n x) := by
  rw [C.stepN_add n 1]; rfl

set_option maxHeartbeats 400000 in
theorem refOn_any (s : Nat) (hs : s < 4294967296) (l : List UInt8) (hl : l.length ≤ 100000) (w : World) :
    Calls Tryd.prog 77 #[.int .u32 s, .string (str l)] w fun e w' => e = .returned (.int .u32 (C.on s l : Nat)) ∧ w = w' := by
  have hsz := str_size l
  obtain ⟨sl, hsl⟩ : ∃ sl, str l = sl := ⟨_, rfl⟩
  rw [hsl] at hsz ⊢
  obtain ⟨len, hlen⟩ : ∃ len, l.length = len := ⟨_, rfl⟩
  have HSL := Lib.hid hsl
  have HSZ := Lib.hid hsz
  have hszl : sl.size ≤ 100000 := by omega
  have hszl' : l.length = sl.size := by omega
  have HLL := Lib.hid hszl'
  clear hsz hl hsl hlen hszl'
  go_enter Tryd.func77, Tryd.ntmps77
  go_wp2_with fail
  go_loop [5, 6] (fun t i => ∃ k : Nat, k ≤ sl.size ∧ i = .int .i64 k ∧ t = .int .u32 (C.run (C.top - s) (l.take k) : Nat)) (fun _ i => sl.size - (intOf i).toNat)
  case atStart => exact ⟨0, by omega, rfl, by simp [C.run, C.top]; omega⟩
  case round =>
    obtain ⟨k, hk, rfl, rfl⟩ := hrel
    by_cases hlt : k < sl.size
    · have hll : k < l.length := by have := HLL.out; omega
      obtain ⟨c, hc⟩ : ∃ c, sl[k] = c := ⟨_, rfl⟩
      have hcl : Hid (l[k] = c) := by
        have h2 := HSL.out
        subst h2
        exact hc
      have hw : (c.toNat : Int) < 4294967296 := by have := c.toNat_lt; omega
      have hx : C.run (C.top - s) (l.take k) < 4294967296 := C.run_lt _ (by unfold C.top; omega)
      have hn : Hid (C.run (C.top - s) (l.take (k + 1)) = C.stepN 8 (C.run (C.top - s) (l.take k) ^^^ c.toNat)) := by
        have h := C.run_snoc (C.top - s) (l.take k) l[k]
        rw [← List.take_succ_eq_append_getElem hll, hcl.out] at h
        exact h
      obtain ⟨x, hxx⟩ : ∃ x, C.run (C.top - s) (l.take k) = x := ⟨_, rfl⟩
      simp only [hxx] at hx hn ⊢
      clear hxx
      have e1 := xor_byte x hx c
      have h1 : x ^^^ c.toNat < 4294967296 := C.xor_lt hx (C.byte_lt c)
      go_wp2_with fail
      clear hc
      go_loop [5, 7] (fun t j => ∃ n : Nat, n ≤ 8 ∧ j = .int .i64 n ∧ t = .int .u32 (C.stepN n (x ^^^ c.toNat) : Nat)) (fun _ j => 8 - (intOf j).toNat)
      case atStart => exact ⟨0, by omega, rfl, rfl⟩
      case round =>
        obtain ⟨n, hn8, rfl, rfl⟩ := hrel
        by_cases hlt8 : n < 8
        · have hy := C.stepN_lt n h1
          have hs1 : Hid (C.stepN (n + 1) (x ^^^ c.toNat) = C.step1 (C.stepN n (x ^^^ c.toNat))) := stepN_succ' n _
          obtain ⟨y, hyy⟩ : ∃ y, C.stepN n (x ^^^ c.toNat) = y := ⟨_, rfl⟩
          simp only [hyy] at hy hs1 ⊢
          clear hyy e1 h1 hw hx hlt hk
          have e2 := u32_xor_nat (y / 2) 3988292384 (by omega) (by decide)
          rw [show ((3988292384 : Nat) : Int) = 3988292384 from rfl, show ((y / 2 : Nat) : Int) = (y : Int) / 2 from by omega] at e2
          by_cases hodd : y % 2 = 1
          · have hd : ((y : Int) % 2 == 1) = true := by rw [beq_iff_eq]; omega
            have hst : Hid (C.step1 y = y / 2 ^^^ 3988292384) := by unfold C.step1; rw [if_pos hodd]; rfl
            clear hodd
            go_wp2_with fail
            go_round
            case rel => exact ⟨n + 1, by omega, by go_num, by rw [hs1.out, hst.out]⟩
            case measure => simp [intOf]; omega
          · have hd : ((y : Int) % 2 == 1) = false := by rw [beq_eq_false_iff_ne]; omega
            have hst : Hid (C.step1 y = y / 2) := by unfold C.step1; rw [if_neg hodd]; rfl
            clear hodd e2
            go_wp2_with fail
            go_round
            case rel => exact ⟨n + 1, by omega, by go_num, by rw [hs1.out, hst.out]; go_num⟩
            case measure => simp [intOf]; omega
        · obtain rfl : n = 8 := by omega
          go_wp2_with fail
          go_round
          case rel => exact ⟨k + 1, by omega, by go_num, by rw [hn.out]⟩
          case measure => simp [intOf]; omega
    · go_wp2_with fail
      go_ret
      refine ⟨ret_int ?_, rfl⟩
      have h2 := C.run_lt l (x := C.top - s) (by unfold C.top; omega)
      rw [List.take_of_length_le (by have := HLL.out; omega), C.on]
      unfold C.top at *
      omega

end Go.Proofs.YtmapmeacjpoaoaaDoor
namespace Go.Proofs.YtmapmeacjpoaoaaDoor
open Go Go.RowKit

theorem refOf_any (l : List UInt8) (hl : l.length ≤ 100000) (w : World) :
    Calls Tryd.prog 74 #[.string (str l)] w fun e w' => e = .returned (.int .u32 (C.of l : Nat)) ∧ w = w' := by
  have h := refOn_any 0 (by decide) l hl w
  rw [show ((0 : Nat) : Int) = 0 from rfl] at h
  have H := Lib.hid h
  clear h
  go_enter Tryd.func74, Tryd.ntmps74
  go_wp2_with fail
  refine H.out.mono ?_
  rintro e w' ⟨rfl, rfl⟩
  go_wp2_with fail
  go_ret
  exact ⟨rfl, rfl⟩

end Go.Proofs.YtmapmeacjpoaoaaDoor
namespace Go.Proofs.YtmapmeacjpoaoaaDoor
open Go Go.RowKit

theorem mtext_any (s : List UInt8) (k : Nat) (hk : k ≤ 100) (w : World) :
    Calls Tryd.prog 56 #[.string (str s), .int .i64 k] w fun e w' => e = .returned (.bool (M.text s k)) ∧ w = w' := by
  by_cases h : s = []
  · subst h
    go_enter Tryd.func56, Tryd.ntmps56
    go_wp2_with fail
    go_ret
    exact ⟨rfl, rfl⟩
  · have hE : s.isEmpty = false := by simpa using h
    have hr : M.text s k = (true && decide (s.length ≤ k)) := by unfold M.text; rw [hE]; rfl
    rw [hr]
    clear hr
    go_enter Tryd.func56, Tryd.ntmps56
    go_wp2_with fail
    go_ret
    exact ⟨by simp, rfl⟩
theorem mmost_any (n : Int) (w : World) :
    Calls Tryd.prog 50 #[.int .i64 n] w fun e w' => e = .returned (.int .i64 (M.most n)) ∧ w = w' := by
  unfold M.most
  by_cases h1 : n < 0
  · rw [if_pos h1]
    go_enter Tryd.func50, Tryd.ntmps50
    go_wp2_with fail
    go_ret
    exact ⟨rfl, rfl⟩
  · rw [if_neg h1]
    by_cases h2 : 50 < n
    · rw [if_pos h2]
      go_enter Tryd.func50, Tryd.ntmps50
      go_wp2_with fail
      go_ret
      exact ⟨rfl, rfl⟩
    · rw [if_neg h2]
      go_enter Tryd.func50, Tryd.ntmps50
      go_wp2_with fail
      go_ret
      exact ⟨rfl, rfl⟩
theorem digest_any (s : List UInt8) (hs : s.length ≤ 100000) (w : World) :
    Calls Tryd.prog 55 #[.string (str s)] w fun e w' => e = .returned (.int .u32 (C.of s : Nat)) ∧ w = w' := by
  have H := Lib.hid (refOf_any s hs w)
  go_enter Tryd.func55, Tryd.ntmps55
  go_wp2_with fail
  refine H.out.mono ?_
  rintro e w' ⟨rfl, rfl⟩
  go_wp2_with fail
  go_ret
  exact ⟨rfl, rfl⟩
end Go.Proofs.YtmapmeacjpoaoaaDoor
namespace Go.Proofs.YtmapmeacjpoaoaaDoor
open Go Go.RowKit

def EN : Three En := ⟨fun e => .string (str e.1), fun e => .string (str e.2.1), fun e => .string (str e.2.2)⟩
/-- The slice value v reads as the entries l. -/
abbrev Es (w : World) (v : Value) (l : List En) : Prop := EN.Ss w v l
theorem infoEn : (Tryd.prog.info? 98).map (fun i => (i.zero, i.size, i.bytes)) = some (some (.agg #[.string (str []), .string (str []), .string (str [])]), 3, 48) := by kernel_rfl
theorem en_oneCell (l : List En) : ∀ u ∈ EN.cells l, u.oneCell' = true := by
  intro u hu
  obtain ⟨e, -, h⟩ := List.mem_flatMap.1 hu
  simp only [List.mem_cons, List.not_mem_nil, or_false] at h
  rcases h with rfl | rfl | rfl <;> rfl
/-- Where entry k lies, in every later world. -/
theorem Es.at {w : World} {ao : Option Addr} {n cap : Nat} {l : List En} (h : Es w (.slice ao n cap) l) {k : Nat} (hk : k < l.length) :
    ∃ b off, ao = some ⟨b, off, none⟩ ∧ ∀ W, Below w.heap.size w W → W.cell? ⟨b, off + k * 3, none⟩ = some (.string (str l[k].1)) ∧ W.cell? ⟨b, off + k * 3 + 1, none⟩ = some (.string (str l[k].2.1)) ∧ W.cell? ⟨b, off + k * 3 + 2, none⟩ = some (.string (str l[k].2.2)) := by
  obtain ⟨b, off, rfl, -⟩ := Three.Ss.at h hk
  refine ⟨b, off, rfl, fun W hW => ?_⟩
  obtain ⟨b', off', e, hc⟩ := Three.Ss.at (Three.Ss.below h hW) hk
  obtain ⟨rfl, rfl⟩ : b = b' ∧ off = off' := by simpa using e
  exact hc k hk

namespace M
theorem find_some {l : List En} {b k : List UInt8} {i : Nat} (h : i < l.length) (h1 : hit b k l[i] = true) (h2 : ∀ j (h : j < l.length), j < i → hit b k l[j] = false) : find l b k = i := by
  have : l.findIdx? (hit b k) = some i := List.findIdx?_eq_some_iff_getElem.2 ⟨h, h1, fun j hj => by simp [h2 j (by omega) hj]⟩
  unfold find
  rw [this]
theorem find_none {l : List En} {b k : List UInt8} (h : ∀ j (_ : j < l.length), hit b k l[j] = false) : find l b k = -1 := by
  have : l.findIdx? (hit b k) = none := List.findIdx?_eq_none_iff.2 fun x hx => by
    obtain ⟨j, hj, rfl⟩ := List.mem_iff_getElem.1 hx
    exact h j hj
  unfold find
  rw [this]
theorem find_lt {l : List En} {b k : List UInt8} (h : 0 ≤ find l b k) : ∃ i : Nat, find l b k = i ∧ i < l.length := by
  unfold find at *
  cases hf : l.findIdx? (hit b k) with
  | none => rw [hf] at h; simp at h
  | some i => exact ⟨i, rfl, (List.findIdx?_eq_some_iff_getElem.1 hf).1⟩
theorem find_le (l : List En) (b k : List UInt8) : -1 ≤ find l b k ∧ find l b k ≤ l.length := by
  rcases Int.lt_or_le (find l b k) 0 with h | h
  · unfold find at *
    cases hf : l.findIdx? (hit b k) with
    | none => simp
    | some i => rw [hf] at h; simp at h; omega
  · obtain ⟨i, h1, h2⟩ := find_lt h
    omega
end M

set_option maxHeartbeats 1000000 in
theorem mfind_any (v : Value) (l : List En) (b key : List UInt8) (w : World) (h : Es w v l) :
    Calls Tryd.prog 48 #[v, .string (str b), .string (str key)] w fun e w' => e = .returned (.int .i64 (M.find l b key)) ∧ w = w' := by
  have hbig := h.len
  obtain ⟨ao, cap, rfl, -⟩ := h.shape
  have HE := Lib.hid h
  clear h
  obtain ⟨N, hN⟩ : ∃ N, l.length = N := ⟨_, rfl⟩
  have HN := Lib.hid hN
  rw [hN] at HE hbig ⊢
  clear hN
  go_enter Tryd.func48, Tryd.ntmps48
  go_wp2_with fail
  go_loop [7] (fun i => ∃ k : Nat, k ≤ N ∧ i = .int .i64 k ∧ Hid (∀ j (h : j < l.length), j < k → M.hit b key l[j] = false)) (fun i => N - (intOf i).toNat)
  case atStart => exact ⟨0, by omega, rfl, fun j h h2 => by omega⟩
  case round =>
    obtain ⟨k, hk, rfl, HR⟩ := hrel
    by_cases hkn : k < N
    · have hkI : (k : Int) < (N : Int) := by omega
      have hk0 : (0 : Int) ≤ (k : Int) := by omega
      obtain ⟨bb, off, rfl, hc⟩ := HE.out.at (k := k) (by rw [HN.out]; exact hkn)
      obtain ⟨p0, p1, -⟩ := hc w (Below.refl _ _)
      have HI : Hid (M.hit b key (l[k]'(by rw [HN.out]; exact hkn)) = true → M.find l b key = k) := fun h => M.find_some (by rw [HN.out]; exact hkn) h HR.out
      have HJ : Hid (M.hit b key (l[k]'(by rw [HN.out]; exact hkn)) = false → ∀ j (h : j < l.length), j < k + 1 → M.hit b key l[j] = false) := fun h j hj hjk => by
        rcases Nat.lt_or_ge j k with h2 | h2
        · exact HR.out j hj h2
        · (obtain rfl : j = k := by omega); exact h
      obtain ⟨x, hx⟩ : ∃ x, (l[k]'(by rw [HN.out]; exact hkn)) = x := ⟨_, rfl⟩
      rw [hx] at p0 p1 HI HJ
      obtain ⟨x0, x1, x2⟩ := x
      simp only [] at p0 p1
      clear hc hx HR
      cases h1 : (x0 == b) with
      | true =>
        cases h2 : (x1 == key) with
        | true =>
          have hfin := Lib.hid (HI.out (by unfold M.hit; simp only [h1, h2]; rfl))
          clear HI HJ
          go_wp2_with fail
          go_ret
          exact ⟨by rw [hfin.out]; rfl, rfl⟩
        | false =>
          have hfin := Lib.hid (HJ.out (by unfold M.hit; simp only [h1, h2]; rfl))
          clear HI HJ
          go_wp2_with fail
          go_round
          case rel => exact ⟨k + 1, by omega, by go_num, hfin⟩
          case measure => simp [intOf]; omega
      | false =>
        have hfin := Lib.hid (HJ.out (by unfold M.hit; simp only [h1]; rfl))
        clear HI HJ
        go_wp2_with fail
        go_round
        case rel => exact ⟨k + 1, by omega, by go_num, hfin⟩
        case measure => simp [intOf]; omega
    · have hkI : ¬ ((k : Int) < (N : Int)) := by omega
      obtain rfl : k = N := by omega
      have hfin : Hid (M.find l b key = -1) := M.find_none fun j hj => HR.out j hj (by rw [← HN.out]; exact hj)
      go_wp2_with fail
      go_ret
      exact ⟨by rw [hfin.out]; rfl, rfl⟩

/-- The slice value v of the call's own holds the entries l. -/
abbrev Eo (w : World) (base : Nat) (v : Value) (l : List En) : Prop := w.ownsRow base 98 3 v l.length (EN.cells l)
theorem Eo.es {w : World} {base : Nat} {v : Value} {l : List En} (h : Eo w base v l) : Es w v l := Three.Ss.of_owns h

namespace M
theorem without_step {l : List En} {b k : List UInt8} {i : Nat} (h : i < l.length) : without (l.take (i + 1)) b k = without (l.take i) b k ++ (if kept b k l[i] then [l[i]] else []) := by
  unfold without
  rw [List.take_succ_eq_append_getElem h, List.filter_append]
  congr 1
  cases hk : kept b k l[i] <;> simp [hk]
theorem without_len (l : List En) (b k : List UInt8) : (without l b k).length ≤ l.length := List.length_filter_le _ _
end M

set_option maxHeartbeats 1000000 in
theorem mwithout_any (v : Value) (l : List En) (b key : List UInt8) (w : World) (h : Es w v l) (hl : l.length ≤ 100000) :
    Calls Tryd.prog 57 #[v, .string (str b), .string (str key)] w fun e w' => ∃ v', e = .returned v' ∧ Eo w' w.heap.size v' (M.without l b key) ∧ Below w.heap.size w w' := by
  obtain ⟨ao, cap, rfl, -⟩ := h.shape
  have HE := Lib.hid h
  clear h
  have HT : Hid (M.without (l.take l.length) b key = M.without l b key) := by unfold Hid; rw [List.take_length]
  obtain ⟨N, hN⟩ : ∃ N, l.length = N := ⟨_, rfl⟩
  have HN := Lib.hid hN
  rw [hN] at HE hl HT ⊢
  clear hN
  obtain ⟨G, hG⟩ : ∃ G, w.heap.size = G := ⟨_, rfl⟩
  have HG := Lib.hid hG
  rw [hG]
  have hb0 : Hid (Below G w w) := Below.refl _ _
  clear hG
  go_enter Tryd.func57, Tryd.ntmps57
  go_wp2_with fail
  go_loopw [7, 8] (fun t i wr => ∃ k : Nat, k ≤ N ∧ i = .int .i64 k ∧ Hid (Eo wr G t (M.without (l.take k) b key)) ∧ Hid (Below G w wr)) (fun _ i _ => N - (intOf i).toNat)
  case atStart => exact ⟨0, by omega, rfl, World.ownsRow_nil _ _ _ _, hb0⟩
  case round =>
    clear hb0
    obtain ⟨k, hk, rfl, HO, hbr⟩ := hrel
    by_cases hkn : k < N
    · have hkI : (k : Int) < (N : Int) := by omega
      have hk0 : (0 : Int) ≤ (k : Int) := by omega
      obtain ⟨bb, off, rfl, hc⟩ := HE.out.at (k := k) (by rw [HN.out]; exact hkn)
      obtain ⟨p0, p1, p2⟩ := hc wr (by rw [HG.out]; exact hbr.out)
      have HST := Lib.hid (M.without_step (b := b) (k := key) (l := l) (i := k) (by rw [HN.out]; exact hkn))
      obtain ⟨x, hx⟩ : ∃ x, (l[k]'(by rw [HN.out]; exact hkn)) = x := ⟨_, rfl⟩
      rw [hx] at p0 p1 p2 HST
      obtain ⟨x0, x1, x2⟩ := x
      simp only [] at p0 p1 p2
      have hln := M.without_len (l.take k) b key
      rw [List.length_take, HN.out, Nat.min_eq_left hk] at hln
      clear hc hx
      cases h1 : (x0 == b) with
      | false =>
        have HST2 : Hid (M.without (l.take (k + 1)) b key = M.without (l.take k) b key ++ [(x0, x1, x2)]) := by
          unfold Hid
          rw [HST.out, if_pos (by unfold M.kept; simp [h1])]
        obtain ⟨m, hm⟩ : ∃ m, (M.without (l.take k) b key).length = m := ⟨_, rfl⟩
        have HO5 := Lib.hid HO.out
        unfold Eo at HO5
        rw [hm] at HO5 hln
        have HO6 := Lib.hid (HO5.out.alloc (.cells #[.string (str x0), .string (str x1), .string (str x2)] 98))
        have HS6 : Hid (Sl (wr.alloc (.cells #[.string (str x0), .string (str x1), .string (str x2)] 98)) 3 1 (.slice (some ⟨wr.heap.size, 0, none⟩) 1 1) (EN.cells [(x0, x1, x2)])) := Sl.lit wr 98 3 1 #[.string (str x0), .string (str x1), .string (str x2)] (0, 0) rfl (by decide)
        have hB6 : Hid (Below G w (wr.alloc (.cells #[.string (str x0), .string (str x1), .string (str x2)] 98))) := hbr.out.alloc (by have := hbr.out.size; rw [HG.out] at this; exact this) _
        have hG6 : G ≤ (wr.alloc (.cells #[.string (str x0), .string (str x1), .string (str x2)] 98)).heap.size := by have := hB6.out.size; rw [HG.out] at this; exact this
        have HM := Lib.hid hm
        clear HO HO5 hbr HST hm
        go_wp2_with (at_builtin; go_must (refine wpList_append_sl rfl _ _ 92 rfl G 98 _ 3 48 Tryd.underlying92 infoEn rfl (by decide) _ _ _ rfl HO6.out _ 1 (EN.cells [(x0, x1, x2)]) rfl HS6.out (en_oneCell _) (by unfold maxLen; omega) (by omega) hG6 ?_))
        intro v7 w7 hown7 hgrow hnn
        clear hnn
        have HO7 : Hid (Eo w7 G v7 (M.without (l.take (k + 1)) b key)) := by
          unfold Hid Eo
          rw [HST2.out, Three.cells_append, List.length_append, HM.out]
          exact hown7
        have hB7 : Hid (Below G w w7) := hB6.out.grown hgrow hG6 (ownBlock_ge HO6.out)
        clear hown7 hgrow HO6 HS6 hB6 hG6 HST2
        go_wp2_with fail
        go_roundw
        case rel => exact ⟨k + 1, by omega, by go_num, HO7, hB7⟩
        case measure => simp [intOf]; omega
      | true =>
        by_cases h2 : key = []
        · have hE : key.isEmpty = true := by simpa using h2
          have HO7 : Hid (Eo wr G u7 (M.without (l.take (k + 1)) b key)) := by
            unfold Hid
            rw [HST.out, if_neg (by unfold M.kept; simp [h1, hE]), List.append_nil]
            exact HO.out
          clear HO HST
          go_wp2_with fail
          go_roundw
          case rel => exact ⟨k + 1, by omega, by go_num, HO7, hbr⟩
          case measure => simp [intOf]; omega
        · have hE : key.isEmpty = false := by simpa using h2
          cases h3 : (x1 == key) with
          | false =>
            have HST2 : Hid (M.without (l.take (k + 1)) b key = M.without (l.take k) b key ++ [(x0, x1, x2)]) := by
              unfold Hid
              rw [HST.out, if_pos (by unfold M.kept; simp [h1, hE, h3])]
            obtain ⟨m, hm⟩ : ∃ m, (M.without (l.take k) b key).length = m := ⟨_, rfl⟩
            have HO5 := Lib.hid HO.out
            unfold Eo at HO5
            rw [hm] at HO5 hln
            have HO6 := Lib.hid (HO5.out.alloc (.cells #[.string (str x0), .string (str x1), .string (str x2)] 98))
            have HS6 : Hid (Sl (wr.alloc (.cells #[.string (str x0), .string (str x1), .string (str x2)] 98)) 3 1 (.slice (some ⟨wr.heap.size, 0, none⟩) 1 1) (EN.cells [(x0, x1, x2)])) := Sl.lit wr 98 3 1 #[.string (str x0), .string (str x1), .string (str x2)] (0, 0) rfl (by decide)
            have hB6 : Hid (Below G w (wr.alloc (.cells #[.string (str x0), .string (str x1), .string (str x2)] 98))) := hbr.out.alloc (by have := hbr.out.size; rw [HG.out] at this; exact this) _
            have hG6 : G ≤ (wr.alloc (.cells #[.string (str x0), .string (str x1), .string (str x2)] 98)).heap.size := by have := hB6.out.size; rw [HG.out] at this; exact this
            have HM := Lib.hid hm
            clear HO HO5 hbr HST hm
            go_wp2_with (at_builtin; go_must (refine wpList_append_sl rfl _ _ 92 rfl G 98 _ 3 48 Tryd.underlying92 infoEn rfl (by decide) _ _ _ rfl HO6.out _ 1 (EN.cells [(x0, x1, x2)]) rfl HS6.out (en_oneCell _) (by unfold maxLen; omega) (by omega) hG6 ?_))
            intro v7 w7 hown7 hgrow hnn
            clear hnn
            have HO7 : Hid (Eo w7 G v7 (M.without (l.take (k + 1)) b key)) := by
              unfold Hid Eo
              rw [HST2.out, Three.cells_append, List.length_append, HM.out]
              exact hown7
            have hB7 : Hid (Below G w w7) := hB6.out.grown hgrow hG6 (ownBlock_ge HO6.out)
            clear hown7 hgrow HO6 HS6 hB6 hG6 HST2
            go_wp2_with fail
            go_roundw
            case rel => exact ⟨k + 1, by omega, by go_num, HO7, hB7⟩
            case measure => simp [intOf]; omega
          | true =>
            have HO7 : Hid (Eo wr G u7 (M.without (l.take (k + 1)) b key)) := by
              unfold Hid
              rw [HST.out, if_neg (by unfold M.kept; simp [h1, hE, h3]), List.append_nil]
              exact HO.out
            clear HO HST
            go_wp2_with fail
            go_roundw
            case rel => exact ⟨k + 1, by omega, by go_num, HO7, hbr⟩
            case measure => simp [intOf]; omega
    · have hkI : ¬ ((k : Int) < (N : Int)) := by omega
      obtain rfl : k = N := by omega
      go_wp2_with fail
      go_ret
      exact ⟨_, rfl, by rw [← HT.out]; exact HO.out, hbr.out⟩
end Go.Proofs.YtmapmeacjpoaoaaDoor
