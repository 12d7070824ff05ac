/- The reference's sources, as a row of bools that is filled. No program. -/
import Derived.Test.YtnfhhhcbgipmcaaDoorSrcPlain
namespace Go.Proofs.YtnfhhhcbgipmcaaDoor.L

abbrev on (bs : List Bool) (i : Nat) : Bool := bs.getD i false
theorem on_set {bs : List Bool} {i j : Nat} (hi : i < bs.length) : on (bs.set i true) j = (decide (j = i) || on bs j) := by
  unfold on
  rw [List.getD_eq_getElem?_getD, List.getElem?_set, List.getD_eq_getElem?_getD]
  by_cases h : i = j
  · subst h; simp [hi]
  · rw [if_neg h, decide_eq_false (fun e => h e.symm)]; rfl
theorem count_set {bs : List Bool} {i : Nat} (hi : i < bs.length) : (bs.set i true).count true = bs.count true + (if on bs i then 0 else 1) := by
  have hc := List.count_set (a := true) (b := true) hi
  rw [hc]
  unfold on
  rw [List.getD_eq_getElem?_getD, List.getElem?_eq_getElem hi, Option.getD_some]
  have hle : bs[i] = true → 1 ≤ bs.count true := fun h => List.count_pos_iff.2 (h ▸ List.getElem_mem hi)
  cases hb : bs[i] with
  | false => simp
  | true => have := hle hb; simp; omega

structure RInv (us : List Nat) (l : List Gr) (s : Nat) (bs : List Bool) : Prop where
  len : bs.length = us.length
  sound : ∀ i, on bs i = true → Src us l s i
  base : ∀ b, b < us.length → s.testBit b = true → on bs b = true
/-- Within a pass that began with c0 of them: so many are on, and what has been looked at is shut, where nothing was turned on. -/
structure RPass (us : List Nat) (l : List Gr) (s c0 : Nat) (bs : List Bool) (nb : Bool) (D : List Bool → Prop) : Prop where
  inv : RInv us l s bs
  le : c0 ≤ bs.count true
  more : nb = true → c0 < bs.count true
  done : nb = false → D bs
def doneF (us : List Nat) (a b : Nat) (bs : List Bool) : Prop := ∀ a' b' : Nat, (a' < a ∨ (a' = a ∧ b' < b)) → b' < us.length → on bs b' = true → leq us a' b' = true → on bs a' = true
def doneG (us : List Nat) (l : List Gr) (k : Nat) (bs : List Bool) : Prop := (∀ a' b' : Nat, on bs b' = true → leq us a' b' = true → on bs a' = true) ∧ ∀ i (_ : i < l.length), i < k → fits us l[i] = true → on bs l[i].2.2.toNat = true → on bs l[i].1.toNat = true ∧ on bs l[i].2.1.toNat = true
section
variable {us : List Nat} {l : List Gr} {s c0 : Nat} {bs : List Bool} {nb : Bool}
theorem RPass.start (h : RInv us l s bs) : RPass us l s (bs.count true) bs false (doneF us 0 0) :=
  ⟨h, Nat.le_refl _, fun e => (by cases e), fun _ a' b' hh => absurd hh (by omega)⟩
theorem RPass.weaken {D D' : List Bool → Prop} (h : RPass us l s c0 bs nb D) (hd : ∀ bs, D bs → D' bs) : RPass us l s c0 bs nb D' := ⟨h.inv, h.le, h.more, fun e => hd _ (h.done e)⟩
theorem RPass.nextA {a : Nat} (h : RPass us l s c0 bs nb (doneF us a us.length)) : RPass us l s c0 bs nb (doneF us (a + 1) 0) :=
  h.weaken fun _ hd a' b' hh hb => hd a' b' (by omega) hb
theorem RPass.skipF {a b : Nat} (h : RPass us l s c0 bs nb (doneF us a b)) (hs : on bs b = true → leq us a b = true → on bs a = true) : RPass us l s c0 bs nb (doneF us a (b + 1)) := by
  refine ⟨h.inv, h.le, h.more, fun e a' b' hh hb' hx hl => ?_⟩
  by_cases he : a' = a ∧ b' = b
  · obtain ⟨rfl, rfl⟩ := he
    exact hs hx hl
  · exact h.done e a' b' (by omega) hb' hx hl
theorem RInv.set_ {i : Nat} (h : RInv us l s bs) (hi : i < us.length) (hs : Src us l s i) : RInv us l s (bs.set i true) := by
  have hl := h.len
  refine ⟨by rw [List.length_set, hl], fun j hj => ?_, fun b hb hx => ?_⟩
  · rw [on_set (by omega), Bool.or_eq_true, decide_eq_true_eq] at hj
    rcases hj with rfl | hj
    · exact hs
    · exact h.sound j hj
  · rw [on_set (by omega), h.base b hb hx, Bool.or_true]
theorem RPass.turnF {a b : Nat} {D : List Bool → Prop} (h : RPass us l s c0 bs nb D) (ha : a < us.length) (hx : on bs b = true) (hl : leq us a b = true) (hn : on bs a = false) (D' : List Bool → Prop) : RPass us l s c0 (bs.set a true) true D' := by
  have hlen := h.inv.len
  have hle := h.le
  refine ⟨h.inv.set_ ha (.flow (h.inv.sound b hx) ha hl), ?_, fun _ => ?_, fun e => by cases e⟩ <;> rw [count_set (by omega), hn] <;> simp <;> omega
theorem RPass.toG (h : RPass us l s c0 bs nb (doneF us us.length 0)) : RPass us l s c0 bs nb (doneG us l 0) :=
  h.weaken fun _ hd => ⟨fun a' b' hx hl => hd a' b' (.inl (leq_ltL hl)) (leq_ltR hl) hx hl, fun _ _ hi => absurd hi (Nat.not_lt_zero _)⟩
theorem RPass.skipG {k : Nat} (h : RPass us l s c0 bs nb (doneG us l k)) (hk : k < l.length) (hs : fits us l[k] = true → on bs l[k].2.2.toNat = true → on bs l[k].1.toNat = true ∧ on bs l[k].2.1.toNat = true) : RPass us l s c0 bs nb (doneG us l (k + 1)) := by
  refine ⟨h.inv, h.le, h.more, fun e => ⟨(h.done e).1, fun i hi hik hf hx => ?_⟩⟩
  by_cases he : i = k
  · subst he; exact hs hf hx
  · exact (h.done e).2 i hi (by omega) hf hx
theorem RPass.turnG {a f t k : Nat} {D : List Bool → Prop} (h : RPass us l s c0 bs nb D) (hk : k < l.length) (hg : l[k] = ((a : Int), (f : Int), (t : Int))) (hf : fits us l[k] = true) (ha : a < us.length) (hff : f < us.length) (hx : on bs t = true) (hn : on bs a = false ∨ on bs f = false) (D' : List Bool → Prop) : RPass us l s c0 ((bs.set a true).set f true) true D' := by
  have hlen := h.inv.len
  have hle := h.le
  have hst : Src us l s l[k].2.2.toNat := by rw [hg]; exact h.inv.sound t hx
  have s1 : Src us l s a := by have := Src.actor (List.getElem_mem hk) hf hst; rw [hg] at this; exact this
  have s2 : Src us l s f := by have := Src.source (List.getElem_mem hk) hf hst; rw [hg] at this; exact this
  have hc : c0 < ((bs.set a true).set f true).count true := by
    rw [count_set (by rw [List.length_set]; omega), count_set (by omega), on_set (by omega)]
    cases h1 : on bs a with
    | false => simp; omega
    | true =>
      rw [h1] at hn
      have h2 : on bs f = false := by rcases hn with h | h; cases h; exact h
      have hne : ¬ f = a := fun e => by rw [e, h1] at h2; cases h2
      rw [h2, decide_eq_false hne]
      simp; omega
  exact ⟨(h.inv.set_ ha s1).set_ hff s2, Nat.le_of_lt hc, fun _ => hc, fun e => by cases e⟩
theorem RPass.shut (h : RPass us l s c0 bs false (doneG us l l.length)) : ofBits us.length (on bs) = srcs us l s := by
  obtain ⟨d1, d2⟩ := h.done rfl
  have hon : ∀ i, (ofBits us.length (on bs)).testBit i = true ↔ on bs i = true := fun i => by
    rw [testBit_ofBits, Bool.and_eq_true, decide_eq_true_eq]
    exact ⟨fun e => e.2, fun e => ⟨(h.inv.sound i e).lt, e⟩⟩
  refine srcs_eq (fun i hi => h.inv.sound i ((hon i).1 hi)) (fun b hb hs => (hon b).2 (h.inv.base b hb hs)) ⟨fun a b hb hab => (hon a).2 (d1 a b ((hon b).1 hb) hab), fun g hg hf ht => ?_⟩
  obtain ⟨i, hi, rfl⟩ := List.getElem_of_mem hg
  obtain ⟨q1, q2⟩ := d2 i hi hi hf ((hon _).1 ht)
  exact ⟨(hon _).2 q1, (hon _).2 q2⟩
end
/-- What is asked for, filled in so far. -/
def ask (n s k : Nat) : List Bool := (List.range n).map fun i => decide (i < k) && s.testBit i
theorem ask_zero (n s : Nat) : ask n s 0 = List.replicate n false := by
  apply List.ext_getElem
  · simp [ask]
  · intro i h1 h2; simp [ask]
theorem ask_length (n s k : Nat) : (ask n s k).length = n := by simp [ask]
theorem ask_set {n s k : Nat} (_hk : k < n) : (ask n s k).set k (s.testBit k) = ask n s (k + 1) := by
  apply List.ext_getElem
  · simp [ask]
  · intro i h1 h2
    rw [List.getElem_set]
    simp only [ask, List.getElem_map, List.getElem_range]
    by_cases e : k = i
    · subst e; simp
    · rw [if_neg e]
      congr 1
      by_cases h : i < k
      · rw [decide_eq_true h, decide_eq_true (by omega)]
      · rw [decide_eq_false h, decide_eq_false (by omega)]
theorem ask_inv (us : List Nat) (l : List Gr) (s : Nat) : RInv us l s (ask us.length s us.length) := by
  have ho : ∀ i, on (ask us.length s us.length) i = true ↔ i < us.length ∧ s.testBit i = true := fun i => by
    unfold on ask
    rw [List.getD_eq_getElem?_getD, List.getElem?_map]
    by_cases hi : i < us.length
    · simp [hi]
    · simp [hi]
  exact ⟨ask_length _ _ _, fun i hi => .base ((ho i).1 hi).1 ((ho i).1 hi).2, fun b hb hs => (ho b).2 ⟨hb, hs⟩⟩
end Go.Proofs.YtnfhhhcbgipmcaaDoor.L
