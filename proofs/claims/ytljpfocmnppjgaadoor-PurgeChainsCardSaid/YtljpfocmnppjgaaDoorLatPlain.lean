/- Labels and which may flow where, as plain functions. No program. -/
import Derived.Test.YtljpfocmnppjgaaDoorBits
namespace Go.Proofs.YtljpfocmnppjgaaDoor.L

def lab (us : List Nat) (a : Int) : Bool := decide (us.length ≤ 64) && decide (0 ≤ a) && decide (a < us.length)
def leq (us : List Nat) (a b : Int) : Bool := lab us a && lab us b && (us.getD a.toNat 0).testBit b.toNat
def down (us : List Nat) (a : Int) : Nat := ofBits us.length fun i => leq us i a
def within (us : List Nat) (a : Nat) : Nat := ofBits us.length (us.getD a 0).testBit
def asInt : Option Nat → Int
  | some c => c
  | none => -1
def first (n : Nat) (p : Nat → Bool) : Int := asInt ((List.range n).find? p)
def above (us : List Nat) (a b : Int) (c : Nat) : Bool := leq us a c && leq us b c
def under (us : List Nat) (a b : Int) (c : Nat) : Bool := leq us c a && leq us c b
def join (us : List Nat) (a b : Int) : Int := first us.length fun c => above us a b c && (List.range us.length).all fun d => !above us a b d || leq us c d
def meet (us : List Nat) (a b : Int) : Int := first us.length fun c => under us a b c && (List.range us.length).all fun d => !under us a b d || leq us d c

theorem lab_iff {us : List Nat} {a : Int} : lab us a = true ↔ us.length ≤ 64 ∧ 0 ≤ a ∧ a < us.length := by
  simp [lab, and_assoc]
theorem lab_nat {us : List Nat} {a : Nat} (h : us.length ≤ 64) : lab us a = decide (a < us.length) := by
  rw [Bool.eq_iff_iff, lab_iff, decide_eq_true_eq]
  omega
theorem leq_long {us : List Nat} (h : 64 < us.length) (a b : Int) : leq us a b = false := by
  have : lab us a = false := by
    rw [Bool.eq_false_iff]; intro h'; have := lab_iff.1 h'; omega
  rw [leq, this]; rfl
theorem leq_of_not_left {us : List Nat} {a : Int} (h : lab us a = false) (b : Int) : leq us a b = false := by rw [leq, h]; rfl
theorem leq_of_not_right {us : List Nat} {b : Int} (h : lab us b = false) (a : Int) : leq us a b = false := by rw [leq, h]; cases lab us a <;> rfl

theorem down_lt (us : List Nat) (a : Int) : down us a < 18446744073709551616 := by
  by_cases h : us.length ≤ 64
  · exact Nat.lt_of_lt_of_le (ofBits_lt _ _) (Nat.pow_le_pow_right (by decide) h)
  · unfold down
    rw [ofBits_congr (q := fun _ => false) (fun i _ => leq_long (by omega) _ _)]
    have : ∀ n, ofBits n (fun _ => false) = 0 := fun n => by induction n with
      | zero => rfl
      | succ n ih => rw [ofBits_succ, ih]; rfl
    rw [this]; decide
theorem testBit_down {us : List Nat} (a : Int) (i : Nat) : (down us a).testBit i = leq us i a := by
  unfold down
  rw [testBit_ofBits]
  by_cases h : i < us.length
  · simp [h]
  · have : lab us i = false := by
      rw [Bool.eq_false_iff]; intro h'; have := lab_iff.1 h'; omega
    rw [leq_of_not_left this]; simp
theorem within_lt {us : List Nat} (h : us.length ≤ 64) (a : Nat) : within us a < 18446744073709551616 :=
  Nat.lt_of_lt_of_le (ofBits_lt _ _) (Nat.pow_le_pow_right (by decide) h)
theorem testBit_within {us : List Nat} (h : us.length ≤ 64) {a : Nat} (ha : a < us.length) (i : Nat) : (within us a).testBit i = leq us a i := by
  unfold within leq
  rw [testBit_ofBits, lab_nat h, lab_nat h]
  simp [ha]

/-- The labels of bits, rising, among n. -/
theorem bitsFrom_filter (x : Nat) : ∀ m k, bitsFrom x k m = (List.range' k m).filter x.testBit
  | 0, k => rfl
  | m + 1, k => by
    rw [List.range'_succ, List.filter_cons, bitsFrom, bitsFrom_filter x m (k + 1)]
theorem bitsOf_filter {x n : Nat} (hn : n ≤ 64) (hx : ∀ i, n ≤ i → x.testBit i = false) : bitsOf x = (List.range n).filter x.testBit := by
  rw [bitsOf, bitsFrom_filter, List.range_eq_range']
  obtain ⟨m, hm⟩ : ∃ m, 64 = n + m := ⟨64 - n, by omega⟩
  rw [hm, ← List.range'_append_1 (s := 0) (m := n) (n := m), List.filter_append]
  have : (List.range' (0 + n) m).filter x.testBit = [] := by
    rw [List.filter_eq_nil_iff]
    intro i hi
    rw [List.mem_range'_1] at hi
    rw [hx i (by omega)]
    decide
  rw [this, List.append_nil]

/-- The first of some that flows, by an order, to all of them. -/
def leastOf (x : Nat) (f : Nat → Nat → Bool) : Int := asInt ((bitsOf x).find? fun c => (bitsOf x).all fun d => f c d)
theorem leastOf_eq {x n : Nat} (hn : n ≤ 64) (p : Nat → Bool) (hx : ∀ i, x.testBit i = (decide (i < n) && p i)) (f : Nat → Nat → Bool) :
    leastOf x f = first n fun c => p c && (List.range n).all fun d => !p d || f c d := by
  unfold leastOf first
  have hb : bitsOf x = (List.range n).filter p := by
    rw [bitsOf_filter hn (fun i hi => by rw [hx]; simp [show ¬ i < n by omega])]
    exact List.filter_congr fun i hi => by rw [hx]; simp [List.mem_range.1 hi]
  rw [hb, List.find?_filter]
  congr 2
  funext c
  rw [List.all_filter, Bool.eq_iff_iff]
  simp

theorem first_none {n : Nat} {p : Nat → Bool} (h : ∀ c, c < n → p c = false) : first n p = -1 := by
  unfold first
  rw [List.find?_eq_none.2 (fun c hc => by rw [h c (List.mem_range.1 hc)]; decide)]
  rfl
theorem join_not_left {us : List Nat} {a : Int} (h : lab us a = false) (b : Int) : join us a b = -1 :=
  first_none fun c _ => by unfold above; rw [leq_of_not_left h]; rfl
theorem join_not_right {us : List Nat} {b : Int} (h : lab us b = false) (a : Int) : join us a b = -1 :=
  first_none fun c _ => by unfold above; rw [leq_of_not_left h]; cases leq us a c <;> rfl
theorem join_least {us : List Nat} {a b : Int} (ha : lab us a = true) (hb : lab us b = true) : leastOf (within us a.toNat &&& within us b.toNat) (fun c d => leq us c d) = join us a b := by
  obtain ⟨h64, ha0, han⟩ := lab_iff.1 ha
  obtain ⟨-, hb0, hbn⟩ := lab_iff.1 hb
  refine leastOf_eq h64 (above us a b) (fun i => ?_) _
  rw [Nat.testBit_and, testBit_within h64 (by omega), testBit_within h64 (by omega), Int.toNat_of_nonneg ha0, Int.toNat_of_nonneg hb0]
  unfold above
  by_cases hi : i < us.length
  · simp [hi]
  · have : lab us i = false := by rw [Bool.eq_false_iff]; intro h'; have := lab_iff.1 h'; omega
    simp [leq_of_not_right this]
theorem meet_least {us : List Nat} (a b : Int) : leastOf (down us a &&& down us b) (fun c d => leq us d c) = meet us a b := by
  by_cases h64 : us.length ≤ 64
  · refine leastOf_eq h64 (under us a b) (fun i => ?_) _
    rw [Nat.testBit_and, testBit_down, testBit_down]
    unfold under
    by_cases hi : i < us.length
    · simp [hi]
    · have : lab us i = false := by rw [Bool.eq_false_iff]; intro h'; have := lab_iff.1 h'; omega
      simp [leq_of_not_left this]
  · have h0 : ∀ a, down us a = 0 := fun a => by
      apply Nat.eq_of_testBit_eq
      intro i
      rw [testBit_down, leq_long (by omega), Nat.zero_testBit]
    rw [h0, h0]
    unfold meet
    rw [first_none (fun c _ => by unfold under; rw [leq_long (by omega)]; rfl)]
    rfl
theorem and_lt {x y : Nat} (h : x < 18446744073709551616) : x &&& y < 18446744073709551616 := Nat.lt_of_le_of_lt Nat.and_le_left h

/-- Rows the other way about. -/
def turned (us : List Nat) : List Nat := (List.range us.length).map fun (i : Nat) => down us i
theorem turned_length (us : List Nat) : (turned us).length = us.length := by simp [turned]
theorem turned_getD {us : List Nat} {i : Nat} (h : i < us.length) : (turned us).getD i 0 = down us i := by
  simp [turned, List.getD_eq_getElem?_getD, h]
theorem leq_turned {us : List Nat} (a b : Int) : leq (turned us) a b = leq us b a := by
  have hl : ∀ a, lab (turned us) a = lab us a := fun a => by unfold lab; rw [turned_length]
  cases ha : lab us a with
  | false => rw [leq_of_not_left (by rw [hl, ha]), leq_of_not_right ha]
  | true =>
    cases hb : lab us b with
    | false => rw [leq_of_not_right (by rw [hl, hb]), leq_of_not_left hb]
    | true =>
      obtain ⟨h64, ha0, han⟩ := lab_iff.1 ha
      obtain ⟨-, hb0, hbn⟩ := lab_iff.1 hb
      have e : leq (turned us) a b = ((turned us).getD a.toNat 0).testBit b.toNat := by unfold leq; rw [hl, hl, ha, hb]; rfl
      rw [e, turned_getD (by omega), testBit_down, Int.toNat_of_nonneg ha0, Int.toNat_of_nonneg hb0]
theorem join_turned {us : List Nat} (a b : Int) : join (turned us) a b = meet us a b := by
  unfold join meet above under
  rw [turned_length]
  congr 1
  funext c
  simp only [leq_turned]

end Go.Proofs.YtljpfocmnppjgaaDoor.L
