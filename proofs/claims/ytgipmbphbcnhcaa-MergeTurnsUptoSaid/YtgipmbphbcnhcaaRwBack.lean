/- Rows turned round, and lists of rows that are put together of the call's own. -/
import Derived.Test.YtgipmbphbcnhcaaRwMore
namespace Go.Proofs.Ytgipmbphbcnhcaa
open Go Go.RowKit

namespace S
/-- No two are alike. -/
def Strict (l : List Rw) : Prop := l.Pairwise fun a b => rlt a b = true
theorem strict_of {C : List Rw} (h : ∀ q (h : q + 1 < C.length), rlt C[q] C[q + 1] = true) : Strict C := by
  have key : ∀ d a (h2 : a + d + 1 < C.length), rlt (C[a]'(by omega)) C[a + d + 1] = true := by
    intro d
    induction d with
    | zero => intro a h2; exact h a h2
    | succ d ih => intro a h2; exact rlt_trans (ih a (by omega)) (h (a + d + 1) h2)
  refine List.pairwise_iff_getElem.2 fun i j hi hj hij => ?_
  have := key (j - i - 1) i (by omega)
  have e : i + (j - i - 1) + 1 = j := by omega
  simpa only [e] using this
theorem filter_few {C : List Rw} (h : Strict C) (x : Rw) : (C.filter (eqv x)).length ≤ 1 := by
  induction C with
  | nil => simp
  | cons a C ih =>
    obtain ⟨h1, h2⟩ := List.pairwise_cons.1 h
    rw [List.filter_cons]
    split
    · rename_i ha
      have : C.filter (eqv x) = [] := by
        rw [List.filter_eq_nil_iff]
        intro b hb hxb
        have h3 := eqv_not (h1 b hb) hxb
        rw [ha] at h3
        cases h3
      rw [this]; simp
    · exact ih h2
theorem rev_few {α : Type} {l : List α} (h : l.length ≤ 1) : l.reverse = l := by
  match l, h with
  | [], _ => rfl
  | [a], _ => rfl
  | a :: b :: l, h => simp at h
/-- Of rows of which no two are alike, the order does not matter. -/
theorem turned {L C : List Rw} (h : IsSort L C) (hs : Strict C) : IsSort L.reverse C := ⟨h.sorted, fun x => by
  rw [List.filter_reverse, ← h.alike x, rev_few (filter_few hs x)]⟩
def backs (rows : List (List Rw)) : List (List Rw) := rows.reverse.map List.reverse
theorem backs_flat (rows : List (List Rw)) : (backs rows).flatten = rows.flatten.reverse := by
  unfold backs
  rw [List.reverse_flatten, List.map_reverse]
theorem backs_step {rows : List (List Rw)} {j : Nat} (h : j < rows.length) : backs (rows.drop j) = backs (rows.drop (j + 1)) ++ [rows[j].reverse] := by
  unfold backs
  rw [List.drop_eq_getElem_cons h, List.reverse_cons, List.map_append, List.map_cons, List.map_nil]
theorem rev_step {l : List Rw} {j : Nat} (h : j < l.length) : (l.drop j).reverse = (l.drop (j + 1)).reverse ++ [l[j]] := by
  rw [List.drop_eq_getElem_cons h]
  simp
theorem turned_back {rows : List (List Rw)} {C D : List Rw} (h : IsSort rows.flatten C) (hs : Strict C) (hD : IsSort (backs rows).flatten D) : D = C := by
  rw [backs_flat] at hD
  exact hD.eq (turned h hs)
theorem one_again {C D : List Rw} (h : Sorted C) (hD : IsSort [C].flatten D) : D = C := by
  refine IsSort.eq (l := C) ?_ (IsSort.self h)
  simpa using hD
theorem of_none {D : List Rw} (hD : IsSort ([] : List (List Rw)).flatten D) : D = [] := List.eq_nil_of_length_eq_zero (by have := hD.len; simpa using this)
theorem upto_none {C : List Rw} : C.take (upto 0 C.length) = [] := by
  unfold upto
  simp
end S

/-- What is owned stays where what is owned of another type grows. -/
theorem ownsRow.beside {w w' : World} {base t sz n : Nat} {u : Value} {cs : List Value} (h : w.ownsRow base t sz u n cs) {base2 t2 sz2 n2 : Nat} {v : Value} {ds : List Value} (h2 : w.ownsRow base2 t2 sz2 v n2 ds) (ht : t ≠ t2) (hg : w.grownBy w' v.ownBlock) : w'.ownsRow base t sz u n cs := by
  refine ⟨h.1, ?_⟩
  rcases h.2 with h1 | ⟨g, cap, cur, rfl, hb, hh, r⟩
  · exact .inl h1
  · refine .inr ⟨g, cap, cur, rfl, hb, ?_, r⟩
    rw [hg.block g (Array.getElem?_eq_some_iff.1 hh).1 (fun e => ?_)]
    · exact hh
    · rcases h2.2 with ⟨rfl, -⟩ | ⟨g2, cap2, cur2, rfl, -, hh2, -⟩
      · simp [Value.ownBlock] at e
      · have : g = g2 := by simpa [Value.ownBlock] using e
        subst this
        rw [hh] at hh2
        simp only [Option.some.injEq, Obj.cells.injEq] at hh2
        exact ht hh2.2.1

/-- A list of lists of rows, all of the call's own. -/
structure Bk (w : World) (base : Nat) (t : Value) (us : List Value) (ls : List (List Rw)) : Prop where
  own : w.ownsRow base 25 1 t us.length us
  len : us.length = ls.length
  each : ∀ i (h : i < us.length) (h2 : i < ls.length), w.ownsRow base 29 3 us[i] ls[i].length (RW.cells ls[i])
theorem Bk.nil (w : World) (base : Nat) : Bk w base (.slice none 0 0) [] [] := ⟨World.ownsRow_nil _ _ _ _, rfl, fun i h => by simp at h⟩
theorem Bk.below {w w' : World} {base : Nat} {t : Value} {us : List Value} {ls : List (List Rw)} (h : Bk w base t us ls) (hb : Below w.heap.size w w') : Bk w' base t us ls := ⟨ownsRow.below h.own hb, h.len, fun i a b => ownsRow.below (h.each i a b) hb⟩
theorem Bk.vs {w : World} {base : Nat} {t : Value} {us : List Value} {ls : List (List Rw)} (h : Bk w base t us ls) : Vs w t ls := ⟨us, by rw [← h.len]; exact Sl.of_owns h.own, fun i a b => Three.Ss.of_owns (h.each i a b)⟩
theorem Bk.push {w w' : World} {base : Nat} {t t' v : Value} {us : List Value} {ls : List (List Rw)} {l : List Rw} (h : Bk w base t us ls) (hv : w.ownsRow base 29 3 v l.length (RW.cells l)) (hg : w.grownBy w' t.ownBlock) (ho : w'.ownsRow base 25 1 t' (us.length + 1) (us ++ [v])) : Bk w' base t' (us ++ [v]) (ls ++ [l]) := by
  refine ⟨by rw [List.length_append]; exact ho, by simp [h.len], fun i a b => ?_⟩
  by_cases hi : i < us.length
  · have hi2 : i < ls.length := by rw [← h.len]; exact hi
    rw [List.getElem_append_left hi, List.getElem_append_left hi2]
    exact ownsRow.beside (h.each i hi hi2) h.own (by decide) hg
  · have hil : i = us.length := by rw [List.length_append] at a; simp at a; omega
    have e1 : (us ++ [v])[i] = v := by
      rw [List.getElem_append_right (by omega)]
      simp
    have e2 : (ls ++ [l])[i] = l := by
      rw [List.getElem_append_right (by rw [← h.len]; omega)]
      simp
    rw [e1, e2]
    exact ownsRow.beside hv h.own (by decide) hg
theorem slice_oneCell {us : List Value} (h : ∀ u ∈ us, ∃ a n c, u = .slice a n c) : ∀ u ∈ us, u.oneCell' = true := fun u hu => by
  obtain ⟨a, n, c, rfl⟩ := h u hu
  rfl
end Go.Proofs.Ytgipmbphbcnhcaa
