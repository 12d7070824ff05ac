/- The reference's way to the closure: rows filled bit by bit, then rounds until nothing new comes. No program. -/
import Derived.Test.YtnfhhhcbgipmcaaDoorClosePlain
namespace Go.Proofs.YtnfhhhcbgipmcaaDoor.L

def gen (n : Nat) (f : Nat → Nat) : List Nat := (List.range n).map fun (i : Nat) => f i
theorem gen_length (n : Nat) (f : Nat → Nat) : (gen n f).length = n := by simp [gen]
theorem gen_getD {n : Nat} {f : Nat → Nat} {i : Nat} (h : i < n) : (gen n f).getD i 0 = f i := by simp [gen, List.getD_eq_getElem?_getD, h]
theorem gen_congr {n : Nat} {f g : Nat → Nat} (h : ∀ i, i < n → f i = g i) : gen n f = gen n g := by
  refine ext_getD (by rw [gen_length, gen_length]) fun i hi => ?_
  rw [gen_length] at hi
  rw [gen_getD hi, gen_getD hi, h i hi]
theorem getD_set {l : List Nat} {k i x : Nat} (hi : i < l.length) : (l.set k x).getD i 0 = if k = i then x else l.getD i 0 := by
  rw [List.getD_eq_getElem?_getD, List.getElem?_set, List.getD_eq_getElem?_getD]
  by_cases h : k = i
  · subst h; rw [if_pos rfl, if_pos hi, if_pos rfl]; rfl
  · rw [if_neg h, if_neg h]
theorem gen_set {n : Nat} {f g : Nat → Nat} {k x : Nat} (hk : g k = x) (h : ∀ i, i < n → i ≠ k → g i = f i) : (gen n f).set k x = gen n g := by
  refine ext_getD (by rw [List.length_set, gen_length, gen_length]) fun i hi => ?_
  rw [List.length_set, gen_length] at hi
  rw [getD_set (by rw [gen_length]; exact hi), gen_getD hi, gen_getD hi]
  by_cases e : k = i
  · subst e; rw [if_pos rfl, hk]
  · rw [if_neg e, h i hi (fun h => e h.symm)]

def wants (us : List Nat) (a b : Nat) : Bool := a == b || bit us a b
/-- The rows ahead of a are done, and b bits of row a. -/
def fillRow (us : List Nat) (a b i : Nat) : Nat := if i < a then startRow us i else if i = a then ofBits b (wants us a) else 0
def fill (us : List Nat) (a b : Nat) : List Nat := gen us.length (fillRow us a b)
theorem fill_length (us : List Nat) (a b : Nat) : (fill us a b).length = us.length := gen_length _ _
theorem fill_zero (us : List Nat) : fill us 0 0 = List.replicate us.length 0 := by
  refine ext_getD (by rw [fill_length, List.length_replicate]) fun i hi => ?_
  rw [fill_length] at hi
  unfold fill
  rw [gen_getD hi, List.getD_eq_getElem?_getD, List.getElem?_replicate, if_pos hi]
  unfold fillRow
  by_cases h : i = 0
  · subst h; rfl
  · simp [h]
theorem fill_next (us : List Nat) (a : Nat) : fill us a us.length = fill us (a + 1) 0 := by
  refine gen_congr fun i hi => ?_
  unfold fillRow
  by_cases h1 : i < a
  · rw [if_pos h1, if_pos (by omega)]
  · rw [if_neg h1]
    by_cases h2 : i = a
    · subst h2; rw [if_pos rfl, if_pos (by omega)]; rfl
    · rw [if_neg h2, if_neg (by omega)]
      by_cases h3 : i = a + 1
      · rw [if_pos h3]; rfl
      · rw [if_neg h3]
theorem fill_all (us : List Nat) : fill us us.length 0 = startTo us us.length := by
  refine gen_congr fun i hi => ?_
  unfold fillRow
  rw [if_pos hi]
theorem fill_here {us : List Nat} {a b : Nat} (ha : a < us.length) : (fill us a b).getD a 0 = ofBits b (wants us a) := by
  unfold fill
  rw [gen_getD ha]
  unfold fillRow
  rw [if_neg (Nat.lt_irrefl _), if_pos rfl]
theorem fill_set {us : List Nat} {a b : Nat} : (fill us a b).set a (ofBits (b + 1) (wants us a)) = fill us a (b + 1) := by
  refine gen_set ?_ fun i _ hia => ?_
  · unfold fillRow; rw [if_neg (Nat.lt_irrefl _), if_pos rfl]
  · unfold fillRow
    by_cases h1 : i < a
    · rw [if_pos h1, if_pos h1]
    · rw [if_neg h1, if_neg h1, if_neg hia, if_neg hia]
theorem fill_skip {us : List Nat} {a b : Nat} (h : wants us a b = false) : fill us a (b + 1) = fill us a b := by
  refine gen_congr fun i _ => ?_
  unfold fillRow
  rw [ofBits_succ, h]
  simp

theorem sum_set : ∀ {l : List Nat} {k x : Nat}, k < l.length → (l.set k x).sum + l.getD k 0 = l.sum + x
  | y :: l, 0, x, _ => by simp; omega
  | y :: l, k + 1, x, h => by
    have := sum_set (l := l) (k := k) (x := x) (by simpa using h)
    simp only [List.set_cons_succ, List.sum_cons, List.getD_cons_succ]
    omega
theorem sum_le {m : Nat} : ∀ {l : List Nat}, (∀ a, a < l.length → l.getD a 0 < m) → l.sum ≤ l.length * m
  | [], _ => by simp
  | y :: l, h => by
    have h0 := h 0 (by simp)
    have ih := sum_le (l := l) fun a ha => by have := h (a + 1) (by simpa using ha); simpa using this
    simp only [List.sum_cons, List.length_cons]
    rw [Nat.add_mul]
    simp only [List.getD_cons_zero] at h0
    omega

theorem add_bit {x c : Nat} (h : x.testBit c = false) : x + 2 ^ c = x ||| 2 ^ c := by
  obtain ⟨m, r, hr, rfl⟩ : ∃ m r, r < 2 ^ c ∧ x = 2 ^ c * (2 * m) + r := by
    refine ⟨x / 2 ^ c / 2, x % 2 ^ c, Nat.mod_lt _ (Nat.two_pow_pos c), ?_⟩
    have h0 : x / 2 ^ c % 2 = 0 := by
      rw [Nat.testBit_eq_decide_div_mod_eq, decide_eq_false_iff_not] at h
      omega
    rw [show 2 * (x / 2 ^ c / 2) = x / 2 ^ c by omega]
    exact (Nat.div_add_mod x (2 ^ c)).symm
  have e : 2 ^ c * (2 * m) + r + 2 ^ c = 2 ^ c * (2 * m + 1) + r := by rw [Nat.mul_add, Nat.mul_one]; omega
  apply Nat.eq_of_testBit_eq
  intro i
  rw [e, Nat.testBit_or, Nat.testBit_two_pow, Nat.testBit_two_pow_mul_add _ hr, Nat.testBit_two_pow_mul_add _ hr]
  by_cases h1 : i < c
  · simp [h1, show ¬ c = i by omega]
  · rw [if_neg h1, if_neg h1]
    by_cases h2 : c = i
    · subst h2; simp [Nat.testBit_zero]
    · obtain ⟨d, rfl⟩ : ∃ d, i = c + (d + 1) := ⟨i - c - 1, by omega⟩
      rw [show c + (d + 1) - c = d + 1 by omega, Nat.testBit_succ, Nat.testBit_succ, show (2 * m + 1) / 2 = m by omega, show 2 * m / 2 = m by omega]
      simp

/-- One bit more, that follows from two. -/
theorem Mid.more {us ms : List Nat} (h : Mid us ms) {a b c : Nat} (ha : a < us.length) (hb : b < us.length) (hc : c < us.length) (h1 : bit ms a b = true) (h2 : bit ms b c = true) (h3 : bit ms a c = false) :
    Mid us (ms.set a (ms.getD a 0 + 2 ^ c)) ∧ ms.getD a 0 + 2 ^ c < 2 ^ us.length ∧ ms.sum < (ms.set a (ms.getD a 0 + 2 ^ c)).sum := by
  have hl := h.length
  have hadd : ms.getD a 0 + 2 ^ c = ms.getD a 0 ||| 2 ^ c := add_bit h3
  have hlt : ms.getD a 0 + 2 ^ c < 2 ^ us.length := by
    rw [hadd]; exact Nat.or_lt_two_pow (h.small a ha) (Nat.pow_lt_pow_right (by decide) hc)
  have hbit : ∀ i j, i < us.length → bit (ms.set a (ms.getD a 0 + 2 ^ c)) i j = (bit ms i j || (decide (a = i) && decide (c = j))) := fun i j hi => by
    unfold bit
    rw [getD_set (by omega)]
    by_cases e : a = i
    · subst e
      rw [if_pos rfl, hadd, Nat.testBit_or, Nat.testBit_two_pow]
      simp
    · rw [if_neg e]; simp [e]
  refine ⟨⟨by rw [List.length_set, hl], fun i hi => ?_, fun i j hi hj hx => ?_, fun i hi => ?_, fun i j e => ?_⟩, hlt, ?_⟩
  · rw [getD_set (by omega)]
    by_cases e : a = i
    · rw [if_pos e]; exact hlt
    · rw [if_neg e]; exact h.small i hi
  · rw [hbit i j hi, Bool.or_eq_true, Bool.and_eq_true, decide_eq_true_eq, decide_eq_true_eq] at hx
    rcases hx with hx | ⟨rfl, rfl⟩
    · exact h.sound i j hi hj hx
    · exact (h.sound _ _ ha hb h1).trans (h.sound _ _ hb hc h2)
  · rw [hbit i i hi, h.same i hi]; rfl
  · rw [hbit i j e.1, h.edges i j e]; rfl
  · have := sum_set (l := ms) (k := a) (x := ms.getD a 0 + 2 ^ c) (by omega)
    have := Nat.two_pow_pos c
    omega
/-- Within a pass over all triples, that began with ms₀. -/
structure Pass (us ms₀ ms : List Nat) (m : Bool) (done : Nat → Nat → Nat → Prop) : Prop where
  mid : Mid us ms
  calm : m = false → ms = ms₀ ∧ ∀ a b c, done a b c → a < us.length → b < us.length → c < us.length → bit ms₀ a b = true → bit ms₀ b c = true → bit ms₀ a c = true
  grown : m = true → ms₀.sum < ms.sum
def doneA (k a _b _c : Nat) : Prop := a < k
def doneB (k j a b _c : Nat) : Prop := a < k ∨ (a = k ∧ b < j)
def doneC (k j i a b c : Nat) : Prop := a < k ∨ (a = k ∧ (b < j ∨ (b = j ∧ c < i)))
theorem Pass.weaken {us ms₀ ms : List Nat} {m : Bool} {d d' : Nat → Nat → Nat → Prop} (h : Pass us ms₀ ms m d) (hd : ∀ a b c, a < us.length → b < us.length → c < us.length → d' a b c → d a b c) : Pass us ms₀ ms m d' :=
  ⟨h.mid, fun e => ⟨(h.calm e).1, fun a b c hx ha hb hc => (h.calm e).2 a b c (hd a b c ha hb hc hx) ha hb hc⟩, h.grown⟩
theorem Pass.start {us ms : List Nat} (h : Mid us ms) : Pass us ms ms false (doneA 0) := ⟨h, fun _ => ⟨rfl, fun _ _ _ hx => absurd hx (Nat.not_lt_zero _)⟩, fun e => (by cases e)⟩
theorem Pass.toB {us ms₀ ms : List Nat} {m : Bool} {k : Nat} (h : Pass us ms₀ ms m (doneA k)) : Pass us ms₀ ms m (doneB k 0) :=
  h.weaken fun a b c _ _ _ hx => by unfold doneA doneB at *; omega
theorem Pass.toC {us ms₀ ms : List Nat} {m : Bool} {k j : Nat} (h : Pass us ms₀ ms m (doneB k j)) : Pass us ms₀ ms m (doneC k j 0) :=
  h.weaken fun a b c _ _ _ hx => by unfold doneB doneC at *; omega
theorem Pass.fromC {us ms₀ ms : List Nat} {m : Bool} {k j : Nat} (h : Pass us ms₀ ms m (doneC k j us.length)) : Pass us ms₀ ms m (doneB k (j + 1)) :=
  h.weaken fun a b c _ _ _ hx => by unfold doneB doneC at *; omega
theorem Pass.fromB {us ms₀ ms : List Nat} {m : Bool} {k : Nat} (h : Pass us ms₀ ms m (doneB k us.length)) : Pass us ms₀ ms m (doneA (k + 1)) :=
  h.weaken fun a b c _ _ _ hx => by unfold doneA doneB at *; omega
theorem Pass.skip {us ms₀ ms : List Nat} {m : Bool} {k j i : Nat} (h : Pass us ms₀ ms m (doneC k j i)) (hx : bit ms k j = true → bit ms j i = true → bit ms k i = true) : Pass us ms₀ ms m (doneC k j (i + 1)) :=
  ⟨h.mid, fun e => by
    obtain ⟨rfl, hc⟩ := h.calm e
    refine ⟨rfl, fun a b c hd ha hb hc' h1 h2 => ?_⟩
    by_cases he : a = k ∧ b = j ∧ c = i
    · obtain ⟨rfl, rfl, rfl⟩ := he; exact hx h1 h2
    · exact hc a b c (by unfold doneC at *; omega) ha hb hc' h1 h2, h.grown⟩
theorem Pass.more {us ms₀ ms : List Nat} {m : Bool} {k j i : Nat} (h : Pass us ms₀ ms m (doneC k j i)) (hk : k < us.length) (hj : j < us.length) (hi : i < us.length) (h1 : bit ms k j = true) (h2 : bit ms j i = true) (h3 : bit ms k i = false) :
    Pass us ms₀ (ms.set k (ms.getD k 0 + 2 ^ i)) true (doneC k j (i + 1)) := by
  obtain ⟨q1, -, q3⟩ := h.mid.more hk hj hi h1 h2 h3
  refine ⟨q1, fun e => (by cases e), fun _ => ?_⟩
  cases m with
  | false => obtain ⟨rfl, -⟩ := h.calm rfl; exact q3
  | true => exact Nat.lt_trans (h.grown rfl) q3
theorem Pass.closed {us ms₀ ms : List Nat} (h : Pass us ms₀ ms false (doneA us.length)) : ms = close us := by
  obtain ⟨rfl, hc⟩ := h.calm rfl
  exact IsClosure.eq (h.mid.closed fun a b c ha hb hc' => hc a b c ha ha hb hc')
/-- How far the rows may still grow. -/
def pot (us ms : List Nat) : Nat := us.length * 2 ^ us.length - ms.sum
theorem Pass.pot_lt {us ms₀ ms : List Nat} {d : Nat → Nat → Nat → Prop} (h : Pass us ms₀ ms true d) : pot us ms < pot us ms₀ := by
  have h1 := h.grown rfl
  have h2 := sum_le (l := ms) (m := 2 ^ us.length) fun a ha => h.mid.small a (by rw [← h.mid.length]; exact ha)
  rw [h.mid.length] at h2
  unfold pot
  omega
end Go.Proofs.YtnfhhhcbgipmcaaDoor.L
