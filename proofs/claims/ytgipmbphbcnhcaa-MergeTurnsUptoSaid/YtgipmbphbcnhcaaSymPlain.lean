/- Two rows in order, put together in place. No program. -/
import Derived.Test.YtgipmbphbcnhcaaSortPlain
namespace Go.Proofs.Ytgipmbphbcnhcaa.S

theorem eqv_not {x y z : Rw} (h : rlt y x = true) (hz : eqv z x = true) : eqv z y = false := by
  simp only [eqv, Bool.and_eq_true, Bool.not_eq_true'] at hz
  rcases rlt_either h z with k | k
  · simp [eqv, k]
  · rw [hz.1] at k; cases k
/-- What stands ahead strictly may be set ahead. -/
theorem Alike.swap {u v : List Rw} (h : ∀ a ∈ u, ∀ b ∈ v, rlt b a = true) : Alike (v ++ u) (u ++ v) := fun x => by
  rw [List.filter_append, List.filter_append]
  by_cases hu : u.filter (eqv x) = []
  · rw [hu]; simp
  · have hv : v.filter (eqv x) = [] := by
      obtain ⟨a, ha⟩ := List.exists_mem_of_ne_nil _ hu
      obtain ⟨ha, hxa⟩ := List.mem_filter.1 ha
      rw [List.filter_eq_nil_iff]
      intro b hb
      rw [eqv_not (h a ha b hb) hxa]
      decide
    rw [hv]; simp
theorem sorted_append {a b : List Rw} : Sorted (a ++ b) ↔ Sorted a ∧ Sorted b ∧ ∀ x ∈ a, ∀ y ∈ b, rlt y x = false := List.pairwise_append
theorem IsSort.self {l : List Rw} (h : Sorted l) : IsSort l l := ⟨h, fun _ => rfl⟩
theorem IsSort.mem {l m : List Rw} (h : IsSort l m) {x : Rw} : x ∈ m ↔ x ∈ l := ⟨fun hx => h.alike.mem hx, fun hx => h.alike.symm.mem hx⟩
theorem IsSort.of_alike {l l' m : List Rw} (h : IsSort l m) (k : Alike l l') : IsSort l' m := ⟨h.sorted, h.alike.trans k⟩

/-- The two halves, put together each by itself. -/
theorem halves {X U V Y C D : List Rw} (hA : Sorted (X ++ U)) (hB : Sorted (V ++ Y)) (hvu : ∀ u ∈ U, ∀ v ∈ V, rlt v u = true) (hxy : ∀ x ∈ X, ∀ y ∈ Y, rlt y x = false) (hC : IsSort (X ++ V) C) (hD : IsSort (U ++ Y) D) :
    IsSort ((X ++ U) ++ (V ++ Y)) (C ++ D) := by
  obtain ⟨-, -, hxu⟩ := sorted_append.1 hA
  obtain ⟨-, -, hvy⟩ := sorted_append.1 hB
  refine ⟨sorted_append.2 ⟨hC.sorted, hD.sorted, fun c hc d hd => ?_⟩, ?_⟩
  · rcases List.mem_append.1 (hC.mem.1 hc) with h | h
    · rcases List.mem_append.1 (hD.mem.1 hd) with k | k
      · exact hxu c h d k
      · exact hxy c h d k
    · rcases List.mem_append.1 (hD.mem.1 hd) with k | k
      · exact rlt_asymm (hvu d k c h)
      · exact hvy c h d k
  · refine (hC.alike.append hD.alike).trans ?_
    have e1 : (X ++ V) ++ (U ++ Y) = X ++ ((V ++ U) ++ Y) := by simp
    have e2 : (X ++ U) ++ (V ++ Y) = X ++ ((U ++ V) ++ Y) := by simp
    rw [e1, e2]
    exact (Alike.refl X).append ((Alike.swap hvu).append (Alike.refl Y))
/-- One ahead of the others, set into its place. -/
theorem one_left {x : Rw} {V W : List Rw} (hB : Sorted (V ++ W)) (hv : ∀ v ∈ V, rlt v x = true) (hw : ∀ y ∈ W, rlt y x = false) : IsSort (x :: (V ++ W)) (V ++ x :: W) := by
  obtain ⟨h1, h2, h3⟩ := sorted_append.1 hB
  refine ⟨sorted_append.2 ⟨h1, List.pairwise_cons.2 ⟨hw, h2⟩, fun v hv' y hy => ?_⟩, ?_⟩
  · rcases List.mem_cons.1 hy with rfl | hy
    · exact rlt_asymm (hv v hv')
    · exact h3 v hv' y hy
  · have := (Alike.swap (u := [x]) (v := V) (fun a ha b hb => by rw [List.mem_singleton.1 ha]; exact hv b hb)).append (Alike.refl W)
    simpa using this
/-- One behind the others, set into its place. -/
theorem one_right {x : Rw} {V W : List Rw} (hA : Sorted (V ++ W)) (hv : ∀ v ∈ V, rlt x v = false) (hw : ∀ y ∈ W, rlt x y = true) : IsSort ((V ++ W) ++ [x]) (V ++ x :: W) := by
  obtain ⟨h1, h2, h3⟩ := sorted_append.1 hA
  refine ⟨sorted_append.2 ⟨h1, List.pairwise_cons.2 ⟨fun y hy => rlt_asymm (hw y hy), h2⟩, fun v hv' y hy => ?_⟩, ?_⟩
  · rcases List.mem_cons.1 hy with rfl | hy
    · exact hv v hv'
    · exact h3 v hv' y hy
  · have := (Alike.refl V).append (Alike.swap (u := W) (v := [x]) (fun a ha b hb => by rw [List.mem_singleton.1 hb]; exact hw a ha))
    simpa using this

theorem sorted_get {l : List Rw} (h : Sorted l) {i j : Nat} (hij : i ≤ j) (hj : j < l.length) : rlt l[j] (l[i]'(by omega)) = false := by
  rcases Nat.lt_or_ge i j with hlt | hge
  · exact List.pairwise_iff_getElem.1 h i j (by omega) hj hlt
  · obtain rfl : i = j := by omega
    exact rlt_self _
/-- In order: what is below one that is below another one is below it. -/
theorem lt_of_not_lt {a b c : Rw} (h : rlt b a = false) (k : rlt b c = true) : rlt a c = true := by
  rcases rlt_either k a with h' | h'
  · rw [h] at h'; cases h'
  · exact h'
theorem lt_of_lt_not {a b c : Rw} (h : rlt a b = true) (k : rlt c b = false) : rlt a c = true := by
  rcases rlt_either h c with h' | h'
  · exact h'
  · rw [k] at h'; cases h'
/-- What the search finds, makes the parts fit. -/
theorem parts_vu {A B : List Rw} (hA : Sorted A) (hB : Sorted B) {s t : Nat} (hs : s ≤ A.length) (ht : t ≤ B.length) (h : ∀ (h1 : s < A.length) (h2 : 0 < t), rlt (B[t - 1]'(by omega)) A[s] = true) : ∀ u ∈ A.drop s, ∀ v ∈ B.take t, rlt v u = true := by
  intro u hu v hv
  obtain ⟨i, hi, rfl⟩ := List.getElem_of_mem hu
  obtain ⟨j, hj, rfl⟩ := List.getElem_of_mem hv
  rw [List.length_drop] at hi
  rw [List.length_take] at hj
  rw [List.getElem_drop, List.getElem_take]
  have h0 := h (by omega) (by omega)
  have h1 : rlt (B[t - 1]'(by omega)) (B[j]'(by omega)) = false := sorted_get hB (by omega) (by omega)
  have h2 : rlt (A[s + i]'(by omega)) (A[s]'(by omega)) = false := sorted_get hA (by omega) (by omega)
  exact lt_of_lt_not (lt_of_not_lt h1 h0) h2
theorem parts_xy {A B : List Rw} (hA : Sorted A) (hB : Sorted B) {s t : Nat} (hs : s ≤ A.length) (h : ∀ (h1 : 0 < s) (h2 : t < B.length), rlt B[t] (A[s - 1]'(by omega)) = false) : ∀ x ∈ A.take s, ∀ y ∈ B.drop t, rlt y x = false := by
  intro x hx y hy
  obtain ⟨i, hi, rfl⟩ := List.getElem_of_mem hx
  obtain ⟨j, hj, rfl⟩ := List.getElem_of_mem hy
  rw [List.length_take] at hi
  rw [List.length_drop] at hj
  rw [List.getElem_take, List.getElem_drop]
  have h0 := h (by omega) (by omega)
  have h1 : rlt (A[s - 1]'(by omega)) (A[i]'(by omega)) = false := sorted_get hA (by omega) (by omega)
  have h2 : rlt (B[t + j]'(by omega)) (B[t]'(by omega)) = false := sorted_get hB (by omega) (by omega)
  rw [Bool.eq_false_iff]
  intro hlt
  have h3 := lt_of_not_lt h2 hlt
  have h4 := lt_of_lt_not h3 h1
  rw [h0] at h4
  cases h4
end Go.Proofs.Ytgipmbphbcnhcaa.S
