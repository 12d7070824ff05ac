/- The laws of a lattice's bounds, as plain order theory. No program. -/
import Derived.Test.YtnfhhhcbgipmcaaDoorCheckPlain
namespace Go.Proofs.YtnfhhhcbgipmcaaDoor.L

theorem first_spec (n : Nat) (p : Nat → Bool) : (∃ k : Nat, k < n ∧ first n p = k ∧ p k = true) ∨ (first n p = -1 ∧ ∀ c, c < n → p c = false) := by
  unfold first
  cases h : (List.range n).find? p with
  | none =>
    refine .inr ⟨rfl, fun c hc => ?_⟩
    have := List.find?_eq_none.1 h c (List.mem_range.2 hc)
    simpa using this
  | some k =>
    exact .inl ⟨k, List.mem_range.1 (List.mem_of_find?_eq_some h), rfl, List.find?_some h⟩
theorem find_congr {p q : Nat → Bool} : ∀ {l : List Nat}, (∀ c, c ∈ l → p c = q c) → l.find? p = l.find? q
  | [], _ => rfl
  | x :: l, h => by rw [List.find?_cons, List.find?_cons, h x (by simp), find_congr (l := l) fun c hc => h c (by simp [hc])]
theorem first_congr {n : Nat} {p q : Nat → Bool} (h : ∀ c, c < n → p c = q c) : first n p = first n q := by
  unfold first
  rw [find_congr fun c hc => h c (List.mem_range.1 hc)]

/-- The first that is over both, and under all that are. -/
def bnd (n : Nat) (le : Nat → Nat → Bool) (a b : Nat) : Int := first n fun c => (le a c && le b c) && (List.range n).all fun d => !(le a d && le b d) || le c d
structure Ord (n : Nat) (le : Nat → Nat → Bool) : Prop where
  same : ∀ a, a < n → le a a = true
  trans : ∀ a b c, a < n → b < n → c < n → le a b = true → le b c = true → le a c = true
  anti : ∀ a b, a < n → b < n → le a b = true → le b a = true → a = b
  has : ∀ a b, a < n → b < a → 0 ≤ bnd n le a b
structure Sup (n : Nat) (le : Nat → Nat → Bool) (a b c : Nat) : Prop where
  lt : c < n
  left : le a c = true
  right : le b c = true
  least : ∀ d, d < n → le a d = true → le b d = true → le c d = true
theorem Sup.iff {n : Nat} {le : Nat → Nat → Bool} {a b c : Nat} (hc : c < n) :
    ((le a c && le b c) && (List.range n).all fun d => !(le a d && le b d) || le c d) = true ↔ Sup n le a b c := by
  rw [Bool.and_eq_true, Bool.and_eq_true, List.all_eq_true]
  constructor
  · rintro ⟨⟨h1, h2⟩, h3⟩
    refine ⟨hc, h1, h2, fun d hd ha hb => ?_⟩
    have := h3 d (List.mem_range.2 hd)
    rw [ha, hb] at this
    simpa using this
  · rintro ⟨-, h1, h2, h3⟩
    refine ⟨⟨h1, h2⟩, fun d hd => ?_⟩
    cases ha : le a d with
    | false => rfl
    | true =>
      cases hb : le b d with
      | false => rfl
      | true => rw [h3 d (List.mem_range.1 hd) ha hb]; rfl
theorem Sup.comm {n : Nat} {le : Nat → Nat → Bool} {a b c : Nat} (h : Sup n le a b c) : Sup n le b a c := ⟨h.lt, h.right, h.left, fun d hd h1 h2 => h.least d hd h2 h1⟩
theorem bnd_comm (n : Nat) (le : Nat → Nat → Bool) (a b : Nat) : bnd n le a b = bnd n le b a := by
  unfold bnd
  refine first_congr fun c _ => ?_
  congr 1
  · exact Bool.and_comm _ _
  · congr 1
    funext d
    rw [Bool.and_comm (le a d)]
namespace Ord
variable {n : Nat} {le : Nat → Nat → Bool}
theorem sup (h : Ord n le) {a b : Nat} (ha : a < n) (hb : b < n) : ∃ j : Nat, bnd n le a b = j ∧ Sup n le a b j := by
  rcases first_spec n (fun c => (le a c && le b c) && (List.range n).all fun d => !(le a d && le b d) || le c d) with ⟨k, hk, e, hp⟩ | ⟨e, hno⟩
  · exact ⟨k, e, (Sup.iff hk).1 hp⟩
  · exfalso
    rcases Nat.lt_trichotomy a b with hlt | rfl | hlt
    · have := h.has b a hb hlt
      rw [bnd_comm] at this
      unfold bnd at this
      omega
    · have hs : Sup n le a a a := ⟨ha, h.same a ha, h.same a ha, fun d _ h1 _ => h1⟩
      have := (Sup.iff ha).2 hs
      rw [hno a ha] at this
      cases this
    · have := h.has a b ha hlt
      unfold bnd at this
      omega
theorem bnd_of (h : Ord n le) {a b c : Nat} (ha : a < n) (hb : b < n) (hs : Sup n le a b c) : bnd n le a b = c := by
  obtain ⟨j, e, hj⟩ := h.sup ha hb
  rw [e, h.anti j c hj.lt hs.lt (hj.least c hs.lt hs.left hs.right) (hs.least j hj.lt hj.left hj.right)]
theorem sup_iff (h : Ord n le) {a b c : Nat} (hb : b < n) (hs : Sup n le a b c) : le a b = ((c : Int) == (b : Int)) := by
  rw [Bool.eq_iff_iff, beq_iff_eq]
  constructor
  · intro hab
    have : c = b := h.anti c b hs.lt hb (hs.least b hb hab (h.same b hb)) hs.right
    omega
  · intro e
    have : c = b := by omega
    subst this
    exact hs.left
/-- Of three the bound is one, whichever two are taken first. -/
theorem three (h : Ord n le) {a b c j k u : Nat} (ha : a < n) (hb : b < n) (hc : c < n) (hj : Sup n le a b j) (hk : Sup n le b c k) (hu : Sup n le a k u) : Sup n le j c u := by
  have hbu := h.trans b k u hb hk.lt hu.lt hk.left hu.right
  have hcu := h.trans c k u hc hk.lt hu.lt hk.right hu.right
  refine ⟨hu.lt, hj.least u hu.lt hu.left hbu, hcu, fun d hd h1 h2 => ?_⟩
  have had := h.trans a j d ha hj.lt hd hj.left h1
  have hbd := h.trans b j d hb hj.lt hd hj.right h1
  exact hu.least d hd had (hk.least d hd hbd h2)
theorem sup_le (h : Ord n le) {a b c d : Nat} (ha : a < n) (hb : b < n) (hd : d < n) (hs : Sup n le a b c) : (le a d && le b d) = le c d := by
  rw [Bool.eq_iff_iff, Bool.and_eq_true]
  exact ⟨fun e => hs.least d hd e.1 e.2, fun e => ⟨h.trans a c d ha hs.lt hd hs.left e, h.trans b c d hb hs.lt hd hs.right e⟩⟩
end Ord

theorem all_congr {p q : Nat → Bool} : ∀ {l : List Nat}, (∀ c, c ∈ l → p c = q c) → l.all p = l.all q
  | [], _ => rfl
  | x :: l, h => by rw [List.all_cons, List.all_cons, h x (by simp), all_congr (l := l) fun c hc => h c (by simp [hc])]
def rev (us : List Nat) (a b : Nat) : Bool := bit us b a
namespace Lat
variable {us : List Nat}
theorem join_bnd (h : Lat us) {a b : Nat} (ha : a < us.length) (hb : b < us.length) : L.join us a b = bnd us.length (bit us) a b := by
  unfold L.join bnd above
  refine first_congr fun c hc => ?_
  rw [leq_bit h.few ha hc, leq_bit h.few hb hc]
  congr 1
  refine all_congr fun d hd => ?_
  have hd := List.mem_range.1 hd
  rw [leq_bit h.few ha hd, leq_bit h.few hb hd, leq_bit h.few hc hd]
theorem meet_bnd (h : Lat us) {a b : Nat} (ha : a < us.length) (hb : b < us.length) : L.meet us a b = bnd us.length (rev us) a b := by
  unfold L.meet bnd under rev
  refine first_congr fun c hc => ?_
  rw [leq_bit h.few hc ha, leq_bit h.few hc hb]
  congr 1
  refine all_congr fun d hd => ?_
  have hd := List.mem_range.1 hd
  rw [leq_bit h.few hd ha, leq_bit h.few hd hb, leq_bit h.few hd hc]
theorem up (h : Lat us) : Ord us.length (bit us) :=
  ⟨h.order.same, h.order.trans, h.anti, fun a b ha hb => by rw [← h.join_bnd ha (by omega)]; exact h.join a b ha hb⟩
theorem dn (h : Lat us) : Ord us.length (rev us) :=
  ⟨h.order.same, fun a b c ha hb hc h1 h2 => h.order.trans c b a hc hb ha h2 h1, fun a b ha hb h1 h2 => h.anti a b ha hb h2 h1, fun a b ha hb => by rw [← h.meet_bnd ha (by omega)]; exact h.meet a b ha hb⟩

/-- All that LatticeBounds asks of two labels. -/
structure Pair (us : List Nat) (a b j m : Nat) : Prop where
  jlt : j < us.length
  mlt : m < us.length
  join : L.join us a b = j
  meet : L.meet us a b = m
  join' : L.join us b a = j
  meet' : L.meet us b a = m
  aj : leq us a j = true
  bj : leq us b j = true
  ma : leq us m a = true
  mb : leq us m b = true
  isj : leq us a b = ((j : Int) == (b : Int))
  ism : leq us a b = ((m : Int) == (a : Int))
  jm : L.join us a m = a
  mj : L.meet us a j = a
theorem pair (h : Lat us) {a b : Nat} (ha : a < us.length) (hb : b < us.length) : ∃ j m : Nat, Pair us a b j m := by
  obtain ⟨j, ej, sj⟩ := h.up.sup ha hb
  obtain ⟨m, em, sm⟩ := h.dn.sup ha hb
  refine ⟨j, m, sj.lt, sm.lt, ?_, ?_, ?_, ?_, ?_, ?_, ?_, ?_, ?_, ?_, ?_, ?_⟩
  · rw [h.join_bnd ha hb, ej]
  · rw [h.meet_bnd ha hb, em]
  · rw [h.join_bnd hb ha, bnd_comm, ej]
  · rw [h.meet_bnd hb ha, bnd_comm, em]
  · rw [leq_bit h.few ha sj.lt]; exact sj.left
  · rw [leq_bit h.few hb sj.lt]; exact sj.right
  · rw [leq_bit h.few sm.lt ha]; exact sm.left
  · rw [leq_bit h.few sm.lt hb]; exact sm.right
  · rw [leq_bit h.few ha hb]; exact h.up.sup_iff hb sj
  · rw [leq_bit h.few ha hb]
    exact h.dn.sup_iff ha sm.comm
  · rw [h.join_bnd ha sm.lt]
    exact h.up.bnd_of ha sm.lt ⟨ha, h.up.same a ha, sm.left, fun d _ h1 _ => h1⟩
  · rw [h.meet_bnd ha sj.lt]
    exact h.dn.bnd_of ha sj.lt ⟨ha, h.dn.same a ha, sj.left, fun d _ h1 _ => h1⟩

/-- All that LatticeThree asks of three labels. -/
structure Triple (us : List Nat) (a b c j m k l u v : Nat) : Prop where
  jc : L.join us j c = u
  bc : L.join us b c = k
  ak : L.join us a k = u
  mc : L.meet us m c = v
  bcm : L.meet us b c = l
  al : L.meet us a l = v
  low : (leq us c a && leq us c b) = leq us c m
  high : (leq us a c && leq us b c) = leq us j c
theorem triple (h : Lat us) {a b c j m : Nat} (ha : a < us.length) (hb : b < us.length) (hc : c < us.length) (hj : L.join us a b = j) (hm : L.meet us a b = m) : ∃ k l u v : Nat, Triple us a b c j m k l u v := by
  obtain ⟨j', ej, sj⟩ := h.up.sup ha hb
  obtain ⟨m', em, sm⟩ := h.dn.sup ha hb
  obtain rfl : j' = j := by have := hj; rw [h.join_bnd ha hb, ej] at this; omega
  obtain rfl : m' = m := by have := hm; rw [h.meet_bnd ha hb, em] at this; omega
  obtain ⟨k, ek, sk⟩ := h.up.sup hb hc
  obtain ⟨l, el, sl⟩ := h.dn.sup hb hc
  obtain ⟨u, eu, su⟩ := h.up.sup ha sk.lt
  obtain ⟨v, ev, sv⟩ := h.dn.sup ha sl.lt
  refine ⟨k, l, u, v, ?_, ?_, ?_, ?_, ?_, ?_, ?_, ?_⟩
  · rw [h.join_bnd sj.lt hc]; exact h.up.bnd_of sj.lt hc (h.up.three ha hb hc sj sk su)
  · rw [h.join_bnd hb hc, ek]
  · rw [h.join_bnd ha sk.lt, eu]
  · rw [h.meet_bnd sm.lt hc]; exact h.dn.bnd_of sm.lt hc (h.dn.three ha hb hc sm sl sv)
  · rw [h.meet_bnd hb hc, el]
  · rw [h.meet_bnd ha sl.lt, ev]
  · rw [leq_bit h.few hc ha, leq_bit h.few hc hb, leq_bit h.few hc sm.lt]; exact h.dn.sup_le ha hb hc sm
  · rw [leq_bit h.few ha hc, leq_bit h.few hb hc, leq_bit h.few sj.lt hc]; exact h.up.sup_le ha hb hc sj

/-- The bound of all so far. -/
structure Lows (us : List Nat) (a x : Nat) : Prop where
  lt : x < us.length
  all : ∀ c, c < a → leq us x c = true
structure Highs (us : List Nat) (a x : Nat) : Prop where
  lt : x < us.length
  all : ∀ c, c < a → leq us c x = true
theorem lows_next (h : Lat us) {a x : Nat} (ha : a < us.length) (hx : Lows us a x) : ∃ y : Nat, L.meet us x a = y ∧ Lows us (a + 1) y := by
  obtain ⟨m, em, sm⟩ := h.dn.sup hx.lt ha
  refine ⟨m, by rw [h.meet_bnd hx.lt ha, em], sm.lt, fun c hc => ?_⟩
  rw [leq_bit h.few sm.lt (by omega)]
  by_cases e : c = a
  · subst e; exact sm.right
  · have := hx.all c (by omega)
    rw [leq_bit h.few hx.lt (by omega)] at this
    exact h.order.trans m x c sm.lt hx.lt (by omega) sm.left this
theorem highs_next (h : Lat us) {a x : Nat} (ha : a < us.length) (hx : Highs us a x) : ∃ y : Nat, L.join us x a = y ∧ Highs us (a + 1) y := by
  obtain ⟨m, em, sm⟩ := h.up.sup hx.lt ha
  refine ⟨m, by rw [h.join_bnd hx.lt ha, em], sm.lt, fun c hc => ?_⟩
  rw [leq_bit h.few (by omega) sm.lt]
  by_cases e : c = a
  · subst e; exact sm.right
  · have := hx.all c (by omega)
    rw [leq_bit h.few (by omega) hx.lt] at this
    exact h.order.trans c x m (by omega) hx.lt sm.lt this sm.left

/-- What is below one is below what it flows to. -/
theorem down_or (h : Lat us) {a b : Nat} (ha : a < us.length) (hb : b < us.length) (hba : leq us b a = true) : down us b ||| down us a = down us a := by
  apply Nat.eq_of_testBit_eq
  intro i
  rw [Nat.testBit_or, testBit_down, testBit_down]
  cases hi : leq us i b with
  | false => rfl
  | true =>
    have hil : i < us.length := by
      rcases Nat.lt_or_ge i us.length with hi' | hi'
      · exact hi'
      · have : lab us i = false := by rw [Bool.eq_false_iff]; intro h'; have := lab_iff.1 h'; omega
        rw [leq_of_not_left this] at hi; cases hi
    rw [leq_bit h.few hil hb] at hi
    rw [leq_bit h.few hb ha] at hba
    rw [leq_bit h.few hil ha, h.order.trans i b a hil hb ha hi hba]
    rfl
theorem down_list (h : Lat us) (a : Nat) : bitsOf (down us a) = (List.range us.length).filter fun (i : Nat) => leq us i a := by
  rw [bitsOf_filter h.few]
  · exact List.filter_congr fun i _ => testBit_down _ _
  · intro i hi
    rw [testBit_down]
    have : lab us i = false := by rw [Bool.eq_false_iff]; intro h'; have := lab_iff.1 h'; omega
    rw [leq_of_not_left this]
end Lat

/-- Of what a front of the numbers has that are asked for. -/
def front (p : Nat → Bool) (b : Nat) : List Nat := (List.range b).filter p
theorem front_succ (p : Nat → Bool) (b : Nat) : front p (b + 1) = front p b ++ if p b then [b] else [] := by
  unfold front
  rw [List.range_succ, List.filter_append]
  congr 1
  cases h : p b <;> simp [h]
theorem front_pre (p : Nat → Bool) {b n : Nat} (h : b ≤ n) : ∃ t, front p n = front p b ++ t := by
  obtain ⟨m, rfl⟩ : ∃ m, n = b + m := ⟨n - b, by omega⟩
  clear h
  induction m with
  | zero => exact ⟨[], by simp⟩
  | succ m ih =>
    obtain ⟨t, ht⟩ := ih
    exact ⟨t ++ if p (b + m) then [b + m] else [], by rw [← Nat.add_assoc, front_succ, ht, List.append_assoc]⟩
theorem front_le (p : Nat → Bool) {b n : Nat} (h : b ≤ n) : (front p b).length ≤ (front p n).length := by
  obtain ⟨t, ht⟩ := front_pre p h
  rw [ht, List.length_append]; omega
theorem front_at (p : Nat → Bool) {b n : Nat} (h : b < n) (hp : p b = true) : (front p b).length < (front p n).length ∧ (front p n).getD (front p b).length 0 = b ∧ (front p (b + 1)).length = (front p b).length + 1 := by
  obtain ⟨t, ht⟩ := front_pre p (b := b + 1) (n := n) (by omega)
  rw [front_succ, if_pos hp] at ht
  refine ⟨?_, ?_, ?_⟩
  · rw [ht]; simp
  · rw [ht, List.getD_eq_getElem?_getD]; simp
  · rw [front_succ, if_pos hp]; simp
theorem front_not (p : Nat → Bool) {b : Nat} (hp : p b = false) : (front p (b + 1)).length = (front p b).length := by
  rw [front_succ]; simp [hp]
end Go.Proofs.YtnfhhhcbgipmcaaDoor.L
