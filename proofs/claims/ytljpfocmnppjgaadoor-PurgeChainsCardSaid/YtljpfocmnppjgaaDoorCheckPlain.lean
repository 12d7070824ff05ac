/- When rows are a lattice. No program. -/
import Derived.Test.YtljpfocmnppjgaaDoorClosePlain
namespace Go.Proofs.YtljpfocmnppjgaaDoor.L

def pairFine (us : List Nat) (a b : Nat) : Bool := !((leq us a b && leq us b a) || decide (join us a b < 0) || decide (meet us a b < 0))
def pairs (us : List Nat) : Bool := (List.range us.length).all fun a => (List.range a).all fun b => pairFine us a b
theorem pairs_true {us : List Nat} (h : ∀ a b, a < us.length → b < a → pairFine us a b = true) : pairs us = true := by
  unfold pairs
  rw [List.all_eq_true]
  intro a ha
  rw [List.all_eq_true]
  intro b hb
  exact h a b (List.mem_range.1 ha) (List.mem_range.1 hb)
theorem pairs_at {us : List Nat} (h : pairs us = true) {a b : Nat} (ha : a < us.length) (hb : b < a) : pairFine us a b = true := by
  unfold pairs at h
  rw [List.all_eq_true] at h
  have := h a (List.mem_range.2 ha)
  rw [List.all_eq_true] at this
  exact this b (List.mem_range.2 hb)
theorem pairs_false {us : List Nat} {a b : Nat} (ha : a < us.length) (hb : b < a) (h : pairFine us a b = false) : pairs us = false := by
  cases hp : pairs us with
  | false => rfl
  | true => rw [pairs_at hp ha hb] at h; cases h

noncomputable def closeOr (us : List Nat) : List Nat := if us.length ≤ 64 then close us else []
theorem closeOr_short {us : List Nat} (h : us.length ≤ 64) : closeOr us = close us := if_pos h
theorem closeOr_long {us : List Nat} (h : ¬ us.length ≤ 64) : closeOr us = [] := if_neg h
noncomputable def check (us : List Nat) : Bool := decide (1 ≤ us.length) && decide (us.length ≤ 64) && (closeOr us == us) && pairs us
theorem check_size {us : List Nat} (h : ¬ (1 ≤ us.length ∧ us.length ≤ 64)) : check us = false := by
  unfold check
  by_cases h1 : 1 ≤ us.length
  · have h2 : ¬ us.length ≤ 64 := fun h2 => h ⟨h1, h2⟩
    simp [h2]
  · simp [h1]
theorem check_of {us : List Nat} (h1 : 1 ≤ us.length) (h2 : us.length ≤ 64) : check us = ((closeOr us == us) && pairs us) := by
  simp [check, h1, h2]

/-- Each flows to itself, and on; and no bits but labels'. -/
structure Order (us : List Nat) : Prop where
  small : ∀ a, a < us.length → us.getD a 0 < 2 ^ us.length
  same : ∀ a, a < us.length → bit us a a = true
  trans : ∀ a b c, a < us.length → b < us.length → c < us.length → bit us a b = true → bit us b c = true → bit us a c = true
theorem close_self {us : List Nat} : close us = us ↔ Order us := by
  constructor
  · intro h
    have hi := close_is us
    rw [h] at hi
    exact ⟨hi.small, fun a ha => (hi.bits a a ha ha).2 (.refl a ha), fun a b c ha hb hc h1 h2 => (hi.bits a c ha hc).2 (((hi.bits a b ha hb).1 h1).trans ((hi.bits b c hb hc).1 h2))⟩
  · intro h
    have hm : Mid us us := ⟨rfl, h.small, fun a b ha hb hx => .step (.refl a ha) ⟨ha, hb, hx⟩, h.same, fun a b e => e.2.2⟩
    exact (IsClosure.eq (hm.closed h.trans)).symm
/-- A lattice. -/
structure Lat (us : List Nat) : Prop where
  some : 1 ≤ us.length
  few : us.length ≤ 64
  order : Order us
  anti : ∀ a b, a < us.length → b < us.length → bit us a b = true → bit us b a = true → a = b
  join : ∀ a b, a < us.length → b < a → 0 ≤ join us a b
  meet : ∀ a b, a < us.length → b < a → 0 ≤ meet us a b
theorem leq_bit {us : List Nat} (h64 : us.length ≤ 64) {a b : Nat} (ha : a < us.length) (hb : b < us.length) : leq us a b = bit us a b := by
  unfold leq bit
  rw [lab_nat h64, lab_nat h64]
  simp [ha, hb]
theorem check_iff {us : List Nat} : check us = true ↔ Lat us := by
  constructor
  · intro h
    have h1 : 1 ≤ us.length ∧ us.length ≤ 64 := by
      by_cases hx : 1 ≤ us.length ∧ us.length ≤ 64
      · exact hx
      · rw [check_size hx] at h; cases h
    obtain ⟨h1, h2⟩ := h1
    rw [check_of h1 h2, Bool.and_eq_true, beq_iff_eq, closeOr_short h2, close_self] at h
    obtain ⟨ho, hp⟩ := h
    have hpf : ∀ a b, a < us.length → b < a → (bit us a b && bit us b a) = false ∧ 0 ≤ L.join us a b ∧ 0 ≤ L.meet us a b := fun a b ha hb => by
      have := pairs_at hp ha hb
      unfold pairFine at this
      rw [leq_bit h2 ha (by omega), leq_bit h2 (by omega) ha] at this
      simp only [Bool.not_eq_true', Bool.or_eq_false_iff, decide_eq_false_iff_not, Int.not_lt] at this
      exact ⟨this.1.1, this.1.2, this.2⟩
    refine ⟨h1, h2, ho, fun a b ha hb hx hy => ?_, fun a b ha hb => (hpf a b ha hb).2.1, fun a b ha hb => (hpf a b ha hb).2.2⟩
    rcases Nat.lt_trichotomy a b with hlt | rfl | hlt
    · have := (hpf b a hb hlt).1
      rw [hx, hy] at this; cases this
    · rfl
    · have := (hpf a b ha hlt).1
      rw [hx, hy] at this; cases this
  · intro h
    rw [check_of h.some h.few, Bool.and_eq_true, beq_iff_eq, closeOr_short h.few, close_self]
    refine ⟨h.order, pairs_true fun a b ha hb => ?_⟩
    have h1 : (bit us a b && bit us b a) = false := by
      cases hx : bit us a b with
      | false => rfl
      | true =>
        cases hy : bit us b a with
        | false => rfl
        | true => have := h.anti a b ha (by omega) hx hy; omega
    unfold pairFine
    rw [leq_bit h.few ha (by omega), leq_bit h.few (by omega) ha, h1]
    have h2 := h.join a b ha hb
    have h3 := h.meet a b ha hb
    simp [h2, h3]

/-- What the reference asks of a row's bit, and of what it leads to. -/
def rowFine (us : List Nat) (a b : Nat) : Bool := !((bit us a b && decide (us.length ≤ b)) || ((a == b) && !bit us a b) || (bit us a b && !(a == b) && bit us b a))
def onFine (us : List Nat) (a b c : Nat) : Bool := !bit us a b || !bit us b c || bit us a c
def bounded (us : List Nat) (a b : Nat) : Bool := !(decide (join us a b < 0) || decide (meet us a b < 0))
/-- What makes the reference say yes, and what makes it say no. -/
theorem check_yes {us : List Nat} (hu : ∀ a, us.getD a 0 < 2 ^ 64) (h1 : 1 ≤ us.length) (h2 : us.length ≤ 64) (hr : ∀ a b, a < us.length → b < 64 → rowFine us a b = true)
    (ho : ∀ a b c, a < us.length → b < 64 → c < us.length → onFine us a b c = true) (hb : ∀ a b, a < us.length → b < a → bounded us a b = true) : check us = true := by
  have hrow : ∀ a b, a < us.length → b < 64 → (bit us a b = true → b < us.length) ∧ (a = b → bit us a b = true) ∧ (bit us a b = true → a ≠ b → bit us b a = false) := fun a b ha hb64 => by
    have := hr a b ha hb64
    unfold rowFine at this
    simp only [Bool.not_eq_true', Bool.or_eq_false_iff] at this
    obtain ⟨⟨q1, q2⟩, q3⟩ := this
    refine ⟨fun hx => ?_, fun e => ?_, fun hx e => ?_⟩
    · rw [hx, Bool.true_and, decide_eq_false_iff_not] at q1; omega
    · subst e; simpa using q2
    · have e' : (a == b) = false := by simp [e]
      rw [hx, e'] at q3; simpa using q3
  refine check_iff.2 ⟨h1, h2, ⟨fun a ha => ?_, fun a ha => (hrow a a ha (by omega)).2.1 rfl, fun a b c ha hb' hc hx hy => ?_⟩, fun a b ha hb' hx hy => ?_, fun a b ha hb' => ?_, fun a b ha hb' => ?_⟩
  · refine Nat.lt_pow_two_of_testBit _ fun i hi => ?_
    by_cases hi64 : i < 64
    · cases hx : (us.getD a 0).testBit i with
      | false => rfl
      | true => have := (hrow a i ha hi64).1 hx; omega
    · exact Nat.testBit_lt_two_pow (Nat.lt_of_lt_of_le (hu a) (Nat.pow_le_pow_right (by decide) (by omega)))
  · have := ho a b c ha (by omega) hc
    unfold onFine at this
    rw [hx, hy] at this; simpa using this
  · by_cases e : a = b
    · exact e
    · have := (hrow a b ha (by omega)).2.2 hx e
      rw [hy] at this; cases this
  · have := hb a b ha hb'
    unfold bounded at this
    simp only [Bool.not_eq_true', Bool.or_eq_false_iff, decide_eq_false_iff_not, Int.not_lt] at this
    exact this.1
  · have := hb a b ha hb'
    unfold bounded at this
    simp only [Bool.not_eq_true', Bool.or_eq_false_iff, decide_eq_false_iff_not, Int.not_lt] at this
    exact this.2
theorem not_lat {us : List Nat} (h : ¬ Lat us) : check us = false := by
  cases hc : check us with
  | false => rfl
  | true => exact absurd (check_iff.1 hc) h
theorem check_no_row {us : List Nat} {a b : Nat} (ha : a < us.length) (h : rowFine us a b = false) : check us = false := not_lat fun hl => by
  unfold rowFine at h
  simp only [Bool.not_eq_false', Bool.or_eq_true, Bool.and_eq_true, decide_eq_true_eq, beq_iff_eq, Bool.not_eq_true', beq_eq_false_iff_ne] at h
  rcases h with (⟨h1, h2⟩ | ⟨rfl, h2⟩) | ⟨⟨h1, h2⟩, h3⟩
  · unfold bit at h1
    rw [Nat.testBit_lt_two_pow (Nat.lt_of_lt_of_le (hl.order.small a ha) (Nat.pow_le_pow_right (by decide) h2))] at h1
    cases h1
  · rw [hl.order.same a ha] at h2; cases h2
  · have hb : b < us.length := by
      rcases Nat.lt_or_ge b us.length with hb | hb
      · exact hb
      · unfold bit at h1
        rw [Nat.testBit_lt_two_pow (Nat.lt_of_lt_of_le (hl.order.small a ha) (Nat.pow_le_pow_right (by decide) hb))] at h1
        cases h1
    exact h2 (hl.anti a b ha hb h1 h3)
theorem check_no_on {us : List Nat} {a b c : Nat} (ha : a < us.length) (hc : c < us.length) (h : onFine us a b c = false) : check us = false := not_lat fun hl => by
  unfold onFine at h
  simp only [Bool.or_eq_false_iff, Bool.not_eq_false'] at h
  obtain ⟨⟨h1, h2⟩, h3⟩ := h
  have hb : b < us.length := by
    rcases Nat.lt_or_ge b us.length with hb | hb
    · exact hb
    · unfold bit at h1
      rw [Nat.testBit_lt_two_pow (Nat.lt_of_lt_of_le (hl.order.small a ha) (Nat.pow_le_pow_right (by decide) hb))] at h1
      cases h1
  rw [hl.order.trans a b c ha hb hc h1 h2] at h3; cases h3
theorem check_no_bound {us : List Nat} {a b : Nat} (ha : a < us.length) (hb : b < a) (h : bounded us a b = false) : check us = false := not_lat fun hl => by
  unfold bounded at h
  simp only [Bool.not_eq_false', Bool.or_eq_true, decide_eq_true_eq] at h
  have h1 := hl.join a b ha hb
  have h2 := hl.meet a b ha hb
  omega
end Go.Proofs.YtljpfocmnppjgaaDoor.L
