/- Words for the laws of merge. -/
import Derived.Test.YtgipmbphbcnhcaaRwAwake
import Derived.Test.YtgipmbphbcnhcaaRwSmall
namespace Go.Proofs.Ytgipmbphbcnhcaa
open Go Go.RowKit

theorem S.upto_all {C : List Rw} (h : C.length ≤ 1000) : C.take (S.upto 1000 C.length) = C := by
  unfold S.upto
  rw [List.take_of_length_le]
  have : (1000 : Int).toNat = 1000 := rfl
  omega
theorem Vs.two {w : World} {a b : Value} {l m : List Rw} (h1 : Rs w a l) (h2 : Rs w b m) : Vs (w.alloc (.cells #[a, b] 25)) (.slice (some ⟨w.heap.size, 0, none⟩) 2 2) [l, m] := by
  have hbb : Below w.heap.size w (w.alloc (.cells #[a, b] 25)) := (Below.refl _ _).alloc (Nat.le_refl _) _
  refine ⟨_, Sl.lit w 25 1 2 #[a, b] (0, 0) rfl (by decide), fun i _ h => ?_⟩
  match i, h with
  | 0, _ => exact Three.Ss.below h1 hbb
  | 1, _ => exact Three.Ss.below h2 hbb
theorem Vs.one {w : World} {a : Value} {l : List Rw} (h1 : Rs w a l) : Vs (w.alloc (.cells #[a] 25)) (.slice (some ⟨w.heap.size, 0, none⟩) 1 1) [l] := by
  have hbb : Below w.heap.size w (w.alloc (.cells #[a] 25)) := (Below.refl _ _).alloc (Nat.le_refl _) _
  refine ⟨_, Sl.lit w 25 1 1 #[a] (0, 0) rfl (by decide), fun i _ h => ?_⟩
  match i, h with
  | 0, _ => exact Three.Ss.below h1 hbb
theorem Rs.cells {w : World} {b off n cap : Nat} {l : List Rw} (h : Rs w (.slice (some ⟨b, off, none⟩) n cap) l) {k : Nat} (hk : k < l.length) :
    w.cell? ⟨b, off + k * 3, none⟩ = some (.string (str l[k].1)) ∧ w.cell? ⟨b, off + k * 3 + 1, none⟩ = some (.int .i64 l[k].2.1) ∧ w.cell? ⟨b, off + k * 3 + 2, none⟩ = some (.string (str l[k].2.2)) := by
  obtain ⟨b', off', e, hc⟩ := h.at hk
  obtain ⟨rfl, rfl⟩ : b = b' ∧ off = off' := by simpa using e
  exact hc w (Below.refl _ _)
theorem S.sorted_at {C : List Rw} (h : S.Sorted C) {q : Nat} (hq : q + 1 < C.length) : S.rlt C[q + 1] C[q] = false := List.pairwise_iff_getElem.1 h q (q + 1) (by omega) hq (by omega)
theorem S.count_step {l : List Rw} {x : Rw} {k : Nat} (hk : k < l.length) : (l.take (k + 1)).count x = (l.take k).count x + if l[k] == x then 1 else 0 := by
  rw [List.take_succ_eq_append_getElem hk, List.count_append, List.count_singleton]
theorem S.count_flat {rows : List (List Rw)} {x : Rw} {k : Nat} (hk : k < rows.length) : (rows.take (k + 1)).flatten.count x = (rows.take k).flatten.count x + rows[k].count x := by
  rw [S.flat_step hk, List.count_append]
/-- What is put together in two goes. -/
theorem S.two_goes {rows : List (List Rw)} {k : Nat} {C C1 C2 D : List Rw} (hC : S.IsSort rows.flatten C) (h1 : S.IsSort (rows.take k).flatten C1) (h2 : S.IsSort (rows.drop k).flatten C2) (hD : S.IsSort [C1, C2].flatten D) : D = C := by
  have e : rows.flatten = (rows.take k).flatten ++ (rows.drop k).flatten := by rw [← List.flatten_append, List.take_append_drop]
  rw [e] at hC
  refine (h1.of_parts h2 ?_).eq hC
  simpa using hD
theorem S.flat_parts {rows : List (List Rw)} (k : Nat) : (rows.take k).flatten.length + (rows.drop k).flatten.length = rows.flatten.length := by
  rw [← List.length_append, ← List.flatten_append, List.take_append_drop]
end Go.Proofs.Ytgipmbphbcnhcaa
