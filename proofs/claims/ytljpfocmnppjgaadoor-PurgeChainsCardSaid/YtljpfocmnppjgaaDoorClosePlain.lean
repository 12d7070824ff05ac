/- What follows from rows: the closure, by Warshall's rounds. No program. -/
import Derived.Test.YtljpfocmnppjgaaDoorLatPlain
namespace Go.Proofs.YtljpfocmnppjgaaDoor.L

def bit (us : List Nat) (a b : Nat) : Bool := (us.getD a 0).testBit b
def edge (us : List Nat) (a b : Nat) : Prop := a < us.length ∧ b < us.length ∧ bit us a b = true
inductive Reach (us : List Nat) : Nat → Nat → Prop
  | refl (a : Nat) (h : a < us.length) : Reach us a a
  | step {a b c : Nat} (h : Reach us a b) (e : edge us b c) : Reach us a c
theorem Reach.left {us : List Nat} {a b : Nat} (h : Reach us a b) : a < us.length := by
  induction h with
  | refl h => exact h
  | step _ _ ih => exact ih
theorem Reach.right {us : List Nat} {a b : Nat} (h : Reach us a b) : b < us.length := by
  cases h with
  | refl h => exact h
  | step _ e => exact e.2.1
theorem Reach.trans {us : List Nat} {a b c : Nat} (h : Reach us a b) (k : Reach us b c) : Reach us a c := by
  induction k with
  | refl => exact h
  | step _ e ih => exact .step ih e

/-- ms is the closure of us. -/
structure IsClosure (us ms : List Nat) : Prop where
  length : ms.length = us.length
  small : ∀ a, a < us.length → ms.getD a 0 < 2 ^ us.length
  bits : ∀ a b, a < us.length → b < us.length → (bit ms a b = true ↔ Reach us a b)
noncomputable def close (us : List Nat) : List Nat := (List.range us.length).map fun (a : Nat) => ofBits us.length fun b => @decide (Reach us a b) (Classical.propDecidable _)

theorem ext_getD {ms ns : List Nat} (h : ms.length = ns.length) (hg : ∀ a, a < ms.length → ms.getD a 0 = ns.getD a 0) : ms = ns := by
  refine List.ext_getElem h fun i h1 h2 => ?_
  have := hg i h1
  rwa [List.getD_eq_getElem?_getD, List.getD_eq_getElem?_getD, List.getElem?_eq_getElem h1, List.getElem?_eq_getElem h2] at this
theorem IsClosure.unique {us ms ns : List Nat} (h : IsClosure us ms) (k : IsClosure us ns) : ms = ns := by
  refine ext_getD (h.length.trans k.length.symm) fun a ha => ?_
  rw [h.length] at ha
  apply Nat.eq_of_testBit_eq
  intro b
  by_cases hb : b < us.length
  · have := (h.bits a b ha hb).trans (k.bits a b ha hb).symm
    exact Bool.eq_iff_iff.2 this
  · have hp : 2 ^ us.length ≤ 2 ^ b := Nat.pow_le_pow_right (by decide) (Nat.not_lt.1 hb)
    rw [Nat.testBit_lt_two_pow (Nat.lt_of_lt_of_le (h.small a ha) hp), Nat.testBit_lt_two_pow (Nat.lt_of_lt_of_le (k.small a ha) hp)]
theorem close_length (us : List Nat) : (close us).length = us.length := by simp [close]
theorem close_getD {us : List Nat} {a : Nat} (ha : a < us.length) : (close us).getD a 0 = ofBits us.length fun b => @decide (Reach us a b) (Classical.propDecidable _) := by
  rw [close, List.getD_eq_getElem?_getD, List.getElem?_map, List.getElem?_range ha]
  rfl
theorem close_is (us : List Nat) : IsClosure us (close us) := by
  refine ⟨close_length us, fun a ha => ?_, fun a b ha hb => ?_⟩
  · rw [close_getD ha]; exact ofBits_lt _ _
  · unfold bit
    rw [close_getD ha, testBit_ofBits]
    simp [hb]
theorem IsClosure.eq {us ms : List Nat} (h : IsClosure us ms) : ms = close us := h.unique (close_is us)

/-- The rows with which both begin: each flows to itself. -/
def startRow (us : List Nat) (a : Nat) : Nat := ofBits us.length fun b => a == b || bit us a b
def startTo (us : List Nat) (k : Nat) : List Nat := (List.range k).map fun (a : Nat) => startRow us a
theorem startTo_length (us : List Nat) (k : Nat) : (startTo us k).length = k := by simp [startTo]
theorem startTo_succ (us : List Nat) (k : Nat) : startTo us (k + 1) = startTo us k ++ [startRow us k] := by simp [startTo, List.range_succ]
theorem startRow_or {us : List Nat} {a : Nat} (ha : a < us.length) : within us a ||| 2 ^ a = startRow us a := by
  apply Nat.eq_of_testBit_eq
  intro i
  unfold within startRow bit
  rw [Nat.testBit_or, testBit_ofBits, testBit_ofBits, Nat.testBit_two_pow]
  by_cases h : a = i
  · subst h; simp [ha]
  · have hb : (a == i) = false := by simp [h]
    simp [h, hb]
theorem startRow_lt (us : List Nat) (a : Nat) : startRow us a < 2 ^ us.length := ofBits_lt _ _

/-- Between the start and the closure. -/
structure Mid (us ms : List Nat) : Prop where
  length : ms.length = us.length
  small : ∀ a, a < us.length → ms.getD a 0 < 2 ^ us.length
  sound : ∀ a b, a < us.length → b < us.length → bit ms a b = true → Reach us a b
  same : ∀ a, a < us.length → bit ms a a = true
  edges : ∀ a b, edge us a b → bit ms a b = true
theorem start_mid (us : List Nat) : Mid us (startTo us us.length) := by
  have hg : ∀ a, a < us.length → (startTo us us.length).getD a 0 = startRow us a := fun a ha => by simp [startTo, List.getD_eq_getElem?_getD, ha]
  have hb : ∀ a b, a < us.length → bit (startTo us us.length) a b = (decide (b < us.length) && (a == b || bit us a b)) := fun a b ha => by
    unfold bit
    rw [hg a ha, startRow, testBit_ofBits]
    rfl
  refine ⟨startTo_length _ _, fun a ha => by rw [hg a ha]; exact startRow_lt _ _, fun a b ha hbn h => ?_, fun a ha => ?_, fun a b e => ?_⟩
  · rw [hb a b ha] at h
    simp only [hbn, decide_true, Bool.true_and, Bool.or_eq_true, beq_iff_eq] at h
    rcases h with rfl | h
    · exact .refl a ha
    · exact .step (.refl a ha) ⟨ha, hbn, h⟩
  · rw [hb a a ha]; simp [ha]
  · rw [hb a b e.1]; simp [e.2.1, e.2.2]
/-- Rows that are nothing new, and closed in themselves, are the closure. -/
theorem Mid.closed {us ms : List Nat} (h : Mid us ms) (ht : ∀ a b c, a < us.length → b < us.length → c < us.length → bit ms a b = true → bit ms b c = true → bit ms a c = true) : IsClosure us ms := by
  refine ⟨h.length, h.small, fun a b ha hb => ⟨h.sound a b ha hb, fun hr => ?_⟩⟩
  induction hr with
  | refl => exact h.same a ha
  | step hr' e ih => exact ht _ _ _ ha e.1 e.2.1 (ih e.1) (h.edges _ _ e)

/-- One row, in the round of c. -/
def warRow (ms : List Nat) (c x : Nat) : Nat := if x.testBit c then x ||| ms.getD c 0 else x
/-- The rows in the round of c, when k of them are done. -/
def warTo (ms : List Nat) (c k : Nat) : List Nat := (ms.take k).map (warRow ms c) ++ ms.drop k
def war (ms : List Nat) (c : Nat) : List Nat := ms.map (warRow ms c)
def warAll (ms : List Nat) : Nat → List Nat
  | 0 => ms
  | c + 1 => war (warAll ms c) c

theorem warTo_zero (ms : List Nat) (c : Nat) : warTo ms c 0 = ms := by simp [warTo]
theorem warTo_all (ms : List Nat) (c : Nat) : warTo ms c ms.length = war ms c := by simp [warTo, war]
theorem warTo_length (ms : List Nat) (c k : Nat) : (warTo ms c k).length = ms.length := by simp [warTo]; omega
theorem war_length (ms : List Nat) (c : Nat) : (war ms c).length = ms.length := by simp [war]
theorem warAll_length (ms : List Nat) : ∀ c, (warAll ms c).length = ms.length
  | 0 => rfl
  | c + 1 => by rw [warAll, war_length, warAll_length ms c]
theorem warTo_getD {ms : List Nat} {c k i : Nat} (hk : k ≤ ms.length) (hi : i < ms.length) : (warTo ms c k).getD i 0 = if i < k then warRow ms c (ms.getD i 0) else ms.getD i 0 := by
  unfold warTo
  rw [List.getD_eq_getElem?_getD, List.getD_eq_getElem?_getD]
  by_cases h : i < k
  · rw [List.getElem?_append_left (by simp; omega), if_pos h]
    simp [h, hi]
  · rw [List.getElem?_append_right (by simp; omega), if_neg h]
    simp [show k + (i - min k ms.length) = i by omega]
/-- The row of c itself stays. -/
theorem warRow_self (ms : List Nat) (c : Nat) : warRow ms c (ms.getD c 0) = ms.getD c 0 := by
  unfold warRow
  split
  · exact Nat.or_self _
  · rfl
theorem warTo_here {ms : List Nat} {c k : Nat} (hk : k < ms.length) : (warTo ms c k).getD k 0 = ms.getD k 0 := by
  rw [warTo_getD (by omega) hk, if_neg (Nat.lt_irrefl _)]
theorem warTo_row {ms : List Nat} {c k : Nat} (hk : k ≤ ms.length) (hc : c < ms.length) : (warTo ms c k).getD c 0 = ms.getD c 0 := by
  rw [warTo_getD hk hc]
  split
  · exact warRow_self ms c
  · rfl
theorem warTo_succ {ms : List Nat} {c k : Nat} (hk : k < ms.length) : warTo ms c (k + 1) = (warTo ms c k).set k (warRow ms c (ms.getD k 0)) := by
  refine ext_getD (by rw [List.length_set, warTo_length, warTo_length]) fun i hi => ?_
  rw [warTo_length] at hi
  rw [warTo_getD (by omega) hi, List.getD_eq_getElem?_getD (l := (warTo ms c k).set k _), List.getElem?_set]
  by_cases h : k = i
  · subst h
    rw [if_pos (Nat.lt_succ_self k), if_pos rfl, if_pos (by rw [warTo_length]; exact hk)]
    rfl
  · rw [if_neg h, ← List.getD_eq_getElem?_getD, warTo_getD (by omega) hi]
    by_cases h2 : i < k
    · rw [if_pos h2, if_pos (by omega)]
    · rw [if_neg h2, if_neg (by omega)]
theorem war_getD {ms : List Nat} {c i : Nat} (hi : i < ms.length) : (war ms c).getD i 0 = warRow ms c (ms.getD i 0) := by
  rw [← warTo_all, warTo_getD (Nat.le_refl _) hi, if_pos hi]
theorem bit_war {ms : List Nat} {c a b : Nat} (ha : a < ms.length) : bit (war ms c) a b = (bit ms a b || (bit ms a c && bit ms c b)) := by
  unfold bit
  rw [war_getD ha]
  unfold warRow
  cases h : (ms.getD a 0).testBit c with
  | false => simp
  | true => simp [Nat.testBit_or]
theorem warRow_lt {ms : List Nat} {c x n : Nat} (h : ∀ a, a < ms.length → ms.getD a 0 < 2 ^ n) (hc : c < ms.length) (hx : x < 2 ^ n) : warRow ms c x < 2 ^ n := by
  unfold warRow
  split
  · exact Nat.or_lt_two_pow hx (h c hc)
  · exact hx

theorem warAll_mid {us ms : List Nat} (h : Mid us ms) : ∀ c, c ≤ us.length → Mid us (warAll ms c)
  | 0, _ => h
  | c + 1, hc => by
    have ih := warAll_mid h c (by omega)
    have hl := ih.length
    refine ⟨by rw [warAll, war_length, hl], fun a ha => ?_, fun a b ha hb hx => ?_, fun a ha => ?_, fun a b e => ?_⟩
    · rw [warAll, war_getD (by omega)]
      exact warRow_lt (fun a' ha' => ih.small a' (by omega)) (by omega) (ih.small a ha)
    · rw [warAll, bit_war (by omega), Bool.or_eq_true, Bool.and_eq_true] at hx
      rcases hx with hx | ⟨h1, h2⟩
      · exact ih.sound a b ha hb hx
      · exact (ih.sound a c ha (by omega) h1).trans (ih.sound c b (by omega) hb h2)
    · rw [warAll, bit_war (by omega), ih.same a ha]; rfl
    · have := e.1
      rw [warAll, bit_war (by omega), ih.edges a b e]; rfl
theorem warAll_trans {ms : List Nat} : ∀ c, c ≤ ms.length → ∀ a d b, a < ms.length → d < c → b < ms.length → bit (warAll ms c) a d = true → bit (warAll ms c) d b = true → bit (warAll ms c) a b = true
  | 0, _, _, _, _, _, hd, _, _, _ => absurd hd (Nat.not_lt_zero _)
  | c + 1, hc, a, d, b, ha, hd, hb, h1, h2 => by
    have ih := warAll_trans (ms := ms) c (by omega)
    have hl := warAll_length ms c
    rw [warAll, bit_war (by omega), Bool.or_eq_true, Bool.and_eq_true] at h1 h2 ⊢
    by_cases he : d = c
    · subst he
      refine .inr ⟨?_, ?_⟩
      · rcases h1 with h | h
        · exact h
        · exact h.1
      · rcases h2 with h | h
        · exact h
        · exact h.2
    · have hdc : d < c := by omega
      rcases h1 with h1 | ⟨h1, h1'⟩
      · rcases h2 with h2 | ⟨h2, h2'⟩
        · exact .inl (ih a d b ha hdc hb h1 h2)
        · exact .inr ⟨ih a d c ha hdc (by omega) h1 h2, h2'⟩
      · rcases h2 with h2 | ⟨h2, h2'⟩
        · exact .inr ⟨h1, ih c d b (by omega) hdc hb h1' h2⟩
        · exact .inr ⟨h1, h2'⟩
theorem warAll_close (us : List Nat) : warAll (startTo us us.length) us.length = close us := by
  refine IsClosure.eq (Mid.closed (warAll_mid (start_mid us) us.length (Nat.le_refl _)) fun a b c ha hb hc h1 h2 => ?_)
  have hl := startTo_length us us.length
  exact warAll_trans us.length (by omega) a b c (by omega) hb (by omega) h1 h2
end Go.Proofs.YtljpfocmnppjgaaDoor.L
