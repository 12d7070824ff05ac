/- Rows in order: what a stable sort is, and that there is one alone. No program. -/
import Derived.Test.YtgipmbphbcnhcaaCmpS
import Derived.Test.YtgipmbphbcnhcaaRwSame
namespace Go.Proofs.Ytgipmbphbcnhcaa

namespace S
theorem blt_self : ∀ a : List UInt8, blt a a = false
  | [] => rfl
  | x :: a => by simp [blt, Op.bytesLess, show Op.bytesLess a a = false from blt_self a]
theorem blt_trans : ∀ {a b c : List UInt8}, blt a b = true → blt b c = true → blt a c = true
  | _, [], _, h, _ => by simp [blt, Op.bytesLess] at h
  | _, _ :: _, [], _, h => by simp [blt, Op.bytesLess] at h
  | [], _ :: _, _ :: _, _, _ => rfl
  | x :: a, y :: b, z :: c, h, k => by
    simp only [blt, Op.bytesLess, Bool.or_eq_true, decide_eq_true_eq, Bool.and_eq_true, beq_iff_eq] at h k ⊢
    rcases h with h | ⟨rfl, h⟩
    · rcases k with k | ⟨rfl, k⟩
      · exact .inl (UInt8.lt_trans h k)
      · exact .inl h
    · rcases k with k | ⟨rfl, k⟩
      · exact .inl k
      · exact .inr ⟨rfl, blt_trans h k⟩
theorem blt_tri : ∀ a b : List UInt8, blt a b = true ∨ a = b ∨ blt b a = true
  | [], [] => .inr (.inl rfl)
  | [], _ :: _ => .inl rfl
  | _ :: _, [] => .inr (.inr rfl)
  | x :: a, y :: b => by
    simp only [blt, Op.bytesLess, Bool.or_eq_true, decide_eq_true_eq, Bool.and_eq_true, beq_iff_eq]
    rcases Nat.lt_trichotomy x.toNat y.toNat with h | h | h
    · exact .inl (.inl (UInt8.lt_iff_toNat_lt.2 h))
    · have e : x = y := UInt8.toNat_inj.1 h
      subst e
      rcases blt_tri a b with h | h | h
      · exact .inl (.inr ⟨rfl, h⟩)
      · exact .inr (.inl (by rw [h]))
      · exact .inr (.inr (.inr ⟨rfl, h⟩))
    · exact .inr (.inr (.inl (UInt8.lt_iff_toNat_lt.2 h)))

/-- How two rows stand. -/
def rcmp (a b : Rw) : Int := orI [ordS a.1 b.1, ordI a.2.1 b.2.1]
def rlt (a b : Rw) : Bool := decide (rcmp a b < 0)
theorem ordS_cases (a b : List UInt8) : (blt a b = true ∧ ordS a b = -1) ∨ (a = b ∧ ordS a b = 0) ∨ (blt b a = true ∧ a ≠ b ∧ blt a b = false ∧ ordS a b = 1) := by
  unfold ordS
  cases h : blt a b with
  | true => exact .inl ⟨rfl, rfl⟩
  | false =>
    rw [if_neg (by decide)]
    by_cases e : a = b
    · exact .inr (.inl ⟨e, if_pos e⟩)
    · rcases blt_tri a b with h' | h' | h'
      · rw [h] at h'; cases h'
      · exact absurd h' e
      · exact .inr (.inr ⟨h', e, rfl, if_neg e⟩)
theorem rlt_iff {a b : Rw} : rlt a b = true ↔ blt a.1 b.1 = true ∨ (a.1 = b.1 ∧ a.2.1 < b.2.1) := by
  have hz : (-1 : Int) ≠ 0 := by decide
  have ho : (1 : Int) ≠ 0 := by decide
  unfold rlt rcmp orI orI orI
  rw [decide_eq_true_eq]
  rcases ordS_cases a.1 b.1 with ⟨h1, e1⟩ | ⟨h1, e1⟩ | ⟨h1, h2, h3, e1⟩
  · rw [e1, if_neg hz]; simp [h1]
  · rw [e1, if_pos (rfl : (0 : Int) = 0)]
    have hb : blt a.1 b.1 = false := by rw [h1]; exact blt_self _
    simp only [h1, blt_self, Bool.false_eq_true, false_or, true_and]
    unfold ordI
    by_cases h2 : a.2.1 < b.2.1
    · rw [if_pos h2, if_neg hz]; omega
    · rw [if_neg h2]
      by_cases h3 : b.2.1 < a.2.1
      · rw [if_pos h3, if_neg ho]; omega
      · rw [if_neg h3, if_pos rfl]; omega
  · rw [e1, if_neg ho, h3]
    simp [h2]
theorem rlt_self (a : Rw) : rlt a a = false := by
  rw [Bool.eq_false_iff]; intro h
  rcases rlt_iff.1 h with h | h
  · rw [blt_self] at h; cases h
  · omega
theorem rlt_trans {a b c : Rw} (h : rlt a b = true) (k : rlt b c = true) : rlt a c = true := by
  rw [rlt_iff] at h k ⊢
  rcases h with h | ⟨h, h'⟩
  · rcases k with k | ⟨k, k'⟩
    · exact .inl (blt_trans h k)
    · exact .inl (k ▸ h)
  · rcases k with k | ⟨k, k'⟩
    · exact .inl (h ▸ k)
    · exact .inr ⟨h.trans k, by omega⟩
theorem rlt_asymm {a b : Rw} (h : rlt a b = true) : rlt b a = false := by
  rw [Bool.eq_false_iff]; intro k
  have := rlt_trans h k
  rw [rlt_self] at this; cases this
/-- If one stands ahead of another one, all others stand behind the first, or ahead of the other. -/
theorem rlt_either {a c : Rw} (h : rlt a c = true) (b : Rw) : rlt a b = true ∨ rlt b c = true := by
  rw [rlt_iff] at h
  rw [rlt_iff, rlt_iff]
  rcases blt_tri a.1 b.1 with k | k | k
  · exact .inl (.inl k)
  · rcases h with h | ⟨h, h'⟩
    · exact .inr (.inl (k ▸ h))
    · by_cases hl : a.2.1 < b.2.1
      · exact .inl (.inr ⟨k, hl⟩)
      · exact .inr (.inr ⟨k.symm.trans h, by omega⟩)
  · rcases h with h | ⟨h, h'⟩
    · exact .inr (.inl (blt_trans k h))
    · exact .inr (.inl (h ▸ k))

def eqv (a b : Rw) : Bool := !rlt a b && !rlt b a
theorem eqv_self (a : Rw) : eqv a a = true := by simp [eqv, rlt_self]
def Sorted (l : List Rw) : Prop := l.Pairwise fun a b => rlt b a = false
def Alike (l m : List Rw) : Prop := ∀ x, l.filter (eqv x) = m.filter (eqv x)
/-- m is l in order, of alike ones the first first. -/
structure IsSort (l m : List Rw) : Prop where
  sorted : Sorted m
  alike : Alike m l
theorem Alike.append {a b c d : List Rw} (h : Alike a b) (k : Alike c d) : Alike (a ++ c) (b ++ d) := fun x => by rw [List.filter_append, List.filter_append, h x, k x]
theorem Alike.refl (l : List Rw) : Alike l l := fun _ => rfl
theorem Alike.trans {a b c : List Rw} (h : Alike a b) (k : Alike b c) : Alike a c := fun x => (h x).trans (k x)
theorem Alike.symm {a b : List Rw} (h : Alike a b) : Alike b a := fun x => (h x).symm
theorem Alike.mem {a b : List Rw} (h : Alike a b) {x : Rw} (hx : x ∈ a) : x ∈ b := by
  have : x ∈ a.filter (eqv x) := List.mem_filter.2 ⟨hx, eqv_self x⟩
  rw [h x] at this
  exact (List.mem_filter.1 this).1
theorem Alike.count {a b : List Rw} (h : Alike a b) (x : Rw) : a.count x = b.count x := by
  have hc : ∀ l : List Rw, l.count x = (l.filter (eqv x)).count x := fun l => (List.count_filter (eqv_self x)).symm
  rw [hc a, hc b, h x]
theorem Alike.nil {a : List Rw} (h : Alike a []) : a = [] := by
  cases a with
  | nil => rfl
  | cons x a => exact absurd (h.mem (List.mem_cons_self)) (by simp)
theorem unique : ∀ {a b : List Rw}, Sorted a → Sorted b → Alike a b → a = b
  | [], b, _, _, h => (Alike.nil h.symm).symm
  | x :: a, [], _, _, h => Alike.nil h
  | x :: a, y :: b, ha, hb, h => by
    have hx : x ∈ y :: b := h.mem (List.mem_cons_self)
    have hy : y ∈ x :: a := h.symm.mem (List.mem_cons_self)
    have h1 : rlt x y = false := by
      rcases List.mem_cons.1 hx with e | e
      · rw [e]; exact rlt_self y
      · exact (List.pairwise_cons.1 hb).1 x e
    have h2 : rlt y x = false := by
      rcases List.mem_cons.1 hy with e | e
      · rw [e]; exact rlt_self x
      · exact (List.pairwise_cons.1 ha).1 y e
    have e : x = y := by
      have := h x
      rw [List.filter_cons, List.filter_cons, eqv_self, if_pos rfl, show eqv x y = true by simp [eqv, h1, h2], if_pos rfl] at this
      exact (List.cons.inj this).1
    subst e
    have ht : Alike a b := fun z => by
      have := h z
      rw [List.filter_cons, List.filter_cons] at this
      cases hz : eqv z x with
      | true => rw [hz, if_pos rfl, if_pos rfl] at this; exact (List.cons.inj this).2
      | false => rw [hz, if_neg (by decide), if_neg (by decide)] at this; exact this
    rw [unique (List.pairwise_cons.1 ha).2 (List.pairwise_cons.1 hb).2 ht]
theorem IsSort.eq {l a b : List Rw} (ha : IsSort l a) (hb : IsSort l b) : a = b := unique ha.sorted hb.sorted (ha.alike.trans hb.alike.symm)
theorem IsSort.len {l a : List Rw} (h : IsSort l a) : a.length = l.length := by
  have hp : a.Perm l := List.perm_iff_count.2 fun x => h.alike.count x
  exact hp.length_eq
end S
end Go.Proofs.Ytgipmbphbcnhcaa
