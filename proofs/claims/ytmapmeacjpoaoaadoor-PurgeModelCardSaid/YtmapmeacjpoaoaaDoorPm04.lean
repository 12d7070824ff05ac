/- Drawn regions in phases: an operation that every loud one waits for, need not yield the same after a loud one. No program. Drawn regions in phases, within a round of a range over a function. No program. What slices.Backward's iterator hands over. What purge.Sets returns. What of an operation is noticed: plain; what op.Seen, the reference's Seen, and slices.Clone at texts return; operations of a call's own. -/
import Derived.Test.YtmapmeacjpoaoaaDoorPm03
import Derived.StillTail
import Derived.OrdersIn
import Derived.RangeFuncCalls
import Derived.RangeFuncBox
namespace Go.Proofs.YtmapmeacjpoaoaaDoor.Two.Ph
open Go Go.RowKit

section
variable {P : Program} {ops : Array Oper} {md : Region.Mode} {S R T : World → World → Prop} {L : List Nat}

theorem eq_grow : Grow (fun w w' : World => w = w') := ⟨fun _ => rfl, fun _ _ _ h k => h.trans k⟩
theorem any_grow : Grow (fun _ _ : World => True) := ⟨fun _ => trivial, fun _ _ _ _ _ => trivial⟩

/-- What one operation may do. -/
def rel (L : List Nat) (S R : World → World → Prop) (i : Nat) : World → World → Prop := fun a b => if L.contains i then R a b else S a b
theorem rel_grow (gs : Grow S) (gr : Grow R) (i : Nat) : Grow (rel L S R i) := by
  unfold rel
  by_cases h : L.contains i = true
  · simp only [h, if_true]; exact gr
  · simp only [h]; exact gs
theorem rel_late {i : Nat} (h : L.contains i = true) : rel L S R i = R := by unfold rel; simp only [h, if_true]
theorem rel_soon {i : Nat} (h : L.contains i = false) : rel L S R i = S := by unfold rel; simp only [h, Bool.false_eq_true, if_false]

/-- What is listed, its forerunners are listed. -/
structure Closed (md : Region.Mode) (ops : Array Oper) (listed : Array Bool) : Prop where
  size : listed.size = ops.size
  closed : ∀ j oj, ops[j]? = some oj → listed.getD j false = true → ∀ e ∈ oj.after, Region.binds md e = true → listed.getD e.on false = true
theorem Closed.set {i : Nat} {listed : Array Bool} (inv : Closed md ops listed) (hi : i ∈ Region.ready md ops listed) : Closed md ops (listed.setIfInBounds i true) := by
  obtain ⟨_, oi, hoi, hall⟩ := mem_ready.1 hi
  refine ⟨by simp [inv.size], fun j oj hj hl e he hb => ?_⟩
  by_cases hij : i = j
  · subst hij
    have : oj = oi := Option.some.inj (hj.symm.trans hoi)
    subst this
    exact getD_set_true (hall e he hb)
  · rw [getD_set_ne false hij] at hl
    exact getD_set_true (inv.closed j oj hj hl e he hb)

/-- t comes after i. -/
def reachB (md : Region.Mode) (ops : Array Oper) : Nat → Nat → Nat → Bool
  | 0, t, i => Region.waitsFor md ops t i
  | f + 1, t, i => Region.waitsFor md ops t i || (List.range ops.size).any fun d => Region.waitsFor md ops t d && reachB md ops f d i
theorem listed_of_reach {listed : Array Bool} (inv : Closed md ops listed) {i : Nat} : ∀ (f t : Nat), listed.getD t false = true → reachB md ops f t i = true → listed.getD i false = true := by
  have one : ∀ t d, listed.getD t false = true → Region.waitsFor md ops t d = true → listed.getD d false = true := fun t d ht hw => by
    obtain ⟨ot, hot, e, he, hb, hon⟩ := Region.waitsFor_spec hw
    have := inv.closed t ot hot ht e he hb
    rwa [hon] at this
  intro f
  induction f with
  | zero => exact fun t ht h => one t i ht h
  | succ f ih =>
    intro t ht h
    simp only [reachB, Bool.or_eq_true] at h
    rcases h with h | h
    · exact one t i ht h
    · obtain ⟨d, -, hd⟩ := List.any_eq_true.1 h
      simp only [Bool.and_eq_true] at hd
      exact ih d (one t d ht hd.1) hd.2
theorem ready_reach {listed : Array Bool} (inv : Closed md ops listed) {i t : Nat} (hr : t ∈ Region.ready md ops listed) {f : Nat} (h : reachB md ops f t i = true) : listed.getD i false = true := by
  obtain ⟨_, ot, hot, hall⟩ := mem_ready.1 hr
  have one : ∀ d, Region.waitsFor md ops t d = true → listed.getD d false = true := fun d hw => by
    obtain ⟨ot', hot', e, he, hb, hon⟩ := Region.waitsFor_spec hw
    have : ot' = ot := Option.some.inj (hot'.symm.trans hot)
    subst this
    have := hall e he hb
    rwa [hon] at this
  cases f with
  | zero => exact one i h
  | succ f =>
    simp only [reachB, Bool.or_eq_true] at h
    rcases h with h | h
    · exact one i h
    · obtain ⟨d, -, hd⟩ := List.any_eq_true.1 h
      simp only [Bool.and_eq_true] at hd
      exact listed_of_reach inv f d (one d hd.1) hd.2

def wpAnyP (L : List Nat) (S R : World → World → Prop) (P : Program) (md : Region.Mode) (ops : Array Oper) (Q : Act → World → Prop) : Nat → Array Bool → Act → World → Prop
  | 0, listed, a, w => Region.ready md ops listed = [] ∧ ∀ w', S w w' → Q a w'
  | fuel + 1, listed, a, w =>
    (Region.ready md ops listed = [] → ∀ w', S w w' → Q a w') ∧
    ∀ i ∈ Region.ready md ops listed, ∀ w1, S w w1 → hOp (rel L S R i) P ops i (wpAnyP L S R P md ops Q fuel (listed.setIfInBounds i true)) a w1

theorem wpAnyP_later (gs : Grow S) {Q : Act → World → Prop} {fuel : Nat} {listed : Array Bool} {a : Act} {w w' : World} (hb : S w w') (h : wpAnyP L S R P md ops Q fuel listed a w) : wpAnyP L S R P md ops Q fuel listed a w' := by
  cases fuel with
  | zero => exact ⟨h.1, fun w'' h'' => h.2 w'' (gs.trans _ _ _ hb h'')⟩
  | succ fuel => exact ⟨fun h0 w'' h'' => h.1 h0 w'' (gs.trans _ _ _ hb h''), fun i hi w1 h1 => h.2 i hi w1 (gs.trans _ _ _ hb h1)⟩

theorem wpAny_of_P (gs : Grow S) {Q : Act → World → Prop} {Q' : Exit → Act → World → Prop} (hQ : ∀ a w, Q a w → Q' .normal a w) : ∀ (fuel : Nat) (listed : Array Bool) (a : Act) (w : World),
    wpAnyP L S R P md ops Q fuel listed a w → wpAny P md ops Q' fuel listed a w
  | 0, _, _, _, h => ⟨h.1, hQ _ _ (h.2 _ (gs.refl _))⟩
  | fuel + 1, _, _, _, h => ⟨fun h0 => hQ _ _ (h.1 h0 _ (gs.refl _)), fun i hi => wpOp_of_hOp (fun a' w' => wpAny_of_P gs hQ fuel _ a' w') (h.2 i hi _ (gs.refl _))⟩

theorem yields_hOp {i : Nat} {o : Oper} {v : Value} {a : Act} {W : World} (gs : Grow S) (sub : ∀ a b, S a b → T a b) (hi : ops[i]? = some o) (hy : YieldsE S T P ops W o v a) {K : Act → World → Prop} {w1 : World} (hb : S W w1)
    (h : ∀ w', S W w' → K (a.put o.dst v) w') : hOp S P ops i K a w1 := by
  unfold Go.Proofs.YtmapmeacjpoaoaaDoor.Two.hOp
  simp only [hi]
  rcases hy with ⟨hw, hv⟩ | ⟨hw, rfl⟩
  · simp only [hw, if_true]
    have h3 := hv ⟨w1, sub _ _ hb⟩
    unfold hOper
    dsimp only at h3
    generalize (execOp a.eval o).run P w1 = r at *
    cases r with
    | ok n w' =>
      cases n <;> simp only [yieldsV] at h3 <;> simp only [yieldsTo] <;> first
        | exact h3.elim
        | (obtain ⟨h4, rfl⟩ := h3; exact ⟨h4, h _ (gs.trans _ _ _ hb h4)⟩)
        | exact ⟨h3.1, h3.2.mono fun e w'' ⟨h5, h6⟩ => ⟨v, h5, h6, h _ (gs.trans _ _ _ hb (gs.trans _ _ _ h3.1 h6))⟩⟩
    | halt x w' => exact h3.elim
  · simp only [hw, Bool.false_eq_true, if_false]
    exact h _ hb

theorem hOp_put {J : World → World → Prop} (gj : Grow J) {j : Nat} {oi oj : Oper} {v : Value} {W : World} (hj : ops[j]? = some oj) (hap : oi.apart ops oj = true)
    (hsi : ∀ cs b, oi.op ≠ .select cs b) (hsj : ∀ cs b, oj.op ≠ .select cs b) {K : Act → World → Prop} {a : Act} {w : World}
    (hy : YieldsE S T P ops W oi v a) (h : hOp J P ops j K (a.put oi.dst v) w) :
    hOp J P ops j (fun a' w' => YieldsE S T P ops W oi v a' ∧ K (a'.put oi.dst v) w') a w := by
  obtain ⟨h1, h2, h3⟩ := Oper.apart_spec hap
  have keep : ∀ (a : Act), YieldsE S T P ops W oi v a → ∀ u, YieldsE S T P ops W oi v (a.put oj.dst u) := fun a hy u =>
    hy.of_same (execOp_put oi hsi a oj.dst u h3) (wanted_put oi a oj.dst u h3)
  unfold hOp at *
  simp only [hj] at *
  rw [wanted_put oj a oi.dst v h1] at h
  split
  · rename_i hw
    simp only [hw, if_true] at h
    unfold hOper at *
    rw [execOp_put oj hsj a oi.dst v h1] at h
    refine yieldsTo_mono gj (fun u w' _ hk => ⟨keep a hy u, ?_⟩) h
    rw [← Act.put_comm a v u h2]
    exact hk
  · rename_i hw
    simp only [hw] at h
    exact ⟨keep a hy _, by rw [← Act.put_comm a v undef h2]; exact h⟩

theorem wpAnyP_first (gs : Grow S) (gr : Grow R) (gt : Grow T) (sub : ∀ a b, S a b → T a b) {Q : Act → World → Prop} {i : Nat} {oi : Oper} {v : Value} (hi : ops[i]? = some oi) (hL : L.contains i = false)
    {f : Nat} (hT : (∀ t, L.contains t = true → reachB md ops f t i = true) ∨ (∀ a b, R a b → T a b))
    (hsel : ∀ (j : Nat) (o : Oper) cs b, ops[j]? = some o → o.op ≠ .select cs b) :
    ∀ (fuel : Nat) (listed : Array Bool) (a : Act) (W : World), Closed md ops listed →
      (∀ j oj, ops[j]? = some oj → j ≠ i → listed.getD j true = false → (∀ e ∈ oj.after, Region.binds md e = true → e.on ≠ i) → oi.apart ops oj = true) →
      i ∈ Region.ready md ops listed → YieldsE S T P ops W oi v a →
      wpAnyP L S R P md ops Q fuel (listed.setIfInBounds i true) (a.put oi.dst v) W → wpAnyP L S R P md ops Q (fuel + 1) listed a W := by
  intro fuel
  induction fuel with
  | zero =>
    intro listed a W _ _ hr hy H
    refine ⟨fun h => (by rw [h] at hr; cases hr), fun j hj w1 hb => ?_⟩
    by_cases hji : j = i
    · subst hji
      rw [rel_soon hL]
      exact yields_hOp gs sub hi hy hb fun w' hb' => wpAnyP_later gs hb' H
    · have := ready_mono hj hji
      rw [H.1] at this
      cases this
  | succ fuel ih =>
    intro listed a W inv hfree hr hy H
    refine ⟨fun h => (by rw [h] at hr; cases hr), fun j hj w1 hb => ?_⟩
    by_cases hji : j = i
    · subst hji
      rw [rel_soon hL]
      exact yields_hOp gs sub hi hy hb fun w' hb' => wpAnyP_later gs hb' H
    · have h1 := H.2 j (ready_mono hj hji) w1 hb
      obtain ⟨hjun, oj, hoj, hall⟩ := mem_ready.1 hj
      have hun : listed.getD i false = false := getD_both (mem_ready.1 hr).1
      have hjT : ∀ a b, rel L S R j a b → T a b := by
        by_cases hlj : L.contains j = true
        · rw [rel_late hlj]
          rcases hT with hT | hT
          · have := ready_reach inv hj (hT j hlj)
            rw [hun] at this
            cases this
          · exact hT
        · rw [rel_soon (by simpa using hlj)]
          exact sub
      have hnot : ∀ e ∈ oj.after, Region.binds md e = true → e.on ≠ i := fun e he hbd heq => by
        have h1 := hall e he hbd
        rw [heq, hun] at h1
        cases h1
      have h2 := hOp_put (rel_grow gs gr j) hoj (hfree j oj hoj hji hjun hnot) (fun cs b => hsel i oi cs b hi) (fun cs b => hsel j oj cs b hoj) hy h1
      have hfree' : ∀ k ok, ops[k]? = some ok → k ≠ i → (listed.setIfInBounds j true).getD k true = false →
          (∀ e ∈ ok.after, Region.binds md e = true → e.on ≠ i) → oi.apart ops ok = true := fun k ok hk hki hun hno => by
        refine hfree k ok hk hki ?_ hno
        by_cases hjk : j = k
        · subst hjk; exact hjun
        · rw [getD_set_ne true hjk] at hun; exact hun
      refine hOp_mono (rel_grow gs gr j) (fun a' w' hb' h3 => ih (listed.setIfInBounds j true) a' w' (inv.set hj) hfree' (ready_mono hr (Ne.symm hji)) (h3.1.later gt (gt.trans _ _ _ (sub _ _ hb) (hjT _ _ hb'))) ?_) h2
      rw [Array.setIfInBounds_comm _ _ hji]
      exact h3.2

/-- The walk in one order; 0: soft in every later world; 1: loud; 2: soft, ahead of every loud one. -/
def mix (S R : World → World → Prop) (P : Program) (ops : Array Oper) (Q : Act → World → Prop) : List (Nat × Nat) → Act → World → Prop
  | [], a, w => ∀ w', S w w' → Q a w'
  | (i, 0) :: rest, a, w => ∃ o, ops[i]? = some o ∧ if Region.wanted o (yielded ops a.tmps) then soft S R P o a w (fun a' => mix S R P ops Q rest a' w) else mix S R P ops Q rest (a.put o.dst undef) w
  | (i, 1) :: rest, a, w => ∃ o, ops[i]? = some o ∧ if Region.wanted o (yielded ops a.tmps) then ∀ x : LaterR S w, hOper R P o a x.1 (mix S R P ops Q rest) else mix S R P ops Q rest (a.put o.dst undef) w
  | (i, _ + 2) :: rest, a, w => ∃ o, ops[i]? = some o ∧ if Region.wanted o (yielded ops a.tmps) then soft S S P o a w (fun a' => mix S R P ops Q rest a' w) else mix S R P ops Q rest (a.put o.dst undef) w

def mixOk (L : List Nat) (md : Region.Mode) (ops : Array Oper) : List (Nat × Nat) → Array Bool → Bool
  | [], listed => (Region.ready md ops listed).isEmpty
  | (i, 0) :: rest, listed => (Region.ready md ops listed).contains i && !L.contains i && Region.free md ops listed i && mixOk L md ops rest (listed.setIfInBounds i true)
  | (i, 1) :: rest, listed => (Region.ready md ops listed == [i]) && L.contains i && mixOk L md ops rest (listed.setIfInBounds i true)
  | (i, _ + 2) :: rest, listed => (Region.ready md ops listed).contains i && !L.contains i && (L.all fun t => reachB md ops 2 t i) && Region.free md ops listed i && mixOk L md ops rest (listed.setIfInBounds i true)
def mixB (L : List Nat) (ops : Array Oper) (order : List (Nat × Nat)) : Bool := Region.noSelect ops && order.length == ops.size && mixOk L .any ops order (Array.replicate ops.size false)

theorem mix_sound (gs : Grow S) (gr : Grow R) (sub : ∀ a b, S a b → R a b) {Q : Act → World → Prop} (hs : Region.noSelect ops = true) : ∀ (l : List (Nat × Nat)) (listed : Array Bool) (a : Act) (w : World), Closed md ops listed →
    mixOk L md ops l listed = true → mix S R P ops Q l a w → wpAnyP L S R P md ops Q l.length listed a w
  | [], _, _, _, _, hB, h => ⟨by simpa [mixOk] using hB, h⟩
  | (i, 0) :: l, listed, a, w, inv, hB, h => by
    simp only [mixOk, Bool.and_eq_true, Bool.not_eq_true'] at hB
    obtain ⟨⟨⟨hr, hL⟩, hf⟩, hB'⟩ := hB
    simp only [mix] at h
    obtain ⟨o, ho, h⟩ := h
    have hy : ∃ v, YieldsE S R P ops w o v a ∧ mix S R P ops Q l (a.put o.dst v) w := by
      split at h
      · rename_i hw
        obtain ⟨v, h1, h2⟩ := h
        exact ⟨v, .inl ⟨hw, h1⟩, h2⟩
      · rename_i hw
        exact ⟨undef, .inr ⟨by simpa using hw, rfl⟩, h⟩
    obtain ⟨v, hy, hK⟩ := hy
    have hr' : i ∈ Region.ready md ops listed := by simpa using hr
    exact wpAnyP_first gs gr gr sub ho hL (f := 0) (.inr fun _ _ h => h) (Region.noSelect_spec hs) l.length listed a w inv (Region.free_spec ho hf) hr' hy (mix_sound gs gr sub hs l _ _ _ (inv.set hr') hB' hK)
  | (i, 1) :: l, listed, a, w, inv, hB, h => by
    simp only [mixOk, Bool.and_eq_true, beq_iff_eq] at hB
    obtain ⟨⟨hr, hL⟩, hB'⟩ := hB
    simp only [mix] at h
    obtain ⟨o, ho, h⟩ := h
    refine ⟨fun h0 => (by rw [hr] at h0; cases h0), fun j hj w1 hb => ?_⟩
    have hi : i ∈ Region.ready md ops listed := by rw [hr]; exact List.mem_singleton.2 rfl
    rw [hr, List.mem_singleton] at hj
    subst hj
    rw [rel_late hL]
    unfold hOp
    simp only [ho]
    split at h
    · rename_i hw
      simp only [hw, if_true]
      exact yieldsTo_mono gr (fun v w' _ hk => mix_sound gs gr sub hs l _ _ _ (inv.set hi) hB' hk) (h ⟨w1, hb⟩)
    · rename_i hw
      simp only [hw]
      exact wpAnyP_later gs hb (mix_sound gs gr sub hs l _ _ _ (inv.set hi) hB' h)
  | (i, _ + 2) :: l, listed, a, w, inv, hB, h => by
    simp only [mixOk, Bool.and_eq_true, Bool.not_eq_true'] at hB
    obtain ⟨⟨⟨⟨hr, hL⟩, hall⟩, hf⟩, hB'⟩ := hB
    simp only [mix] at h
    obtain ⟨o, ho, h⟩ := h
    have hy : ∃ v, YieldsE S S P ops w o v a ∧ mix S R P ops Q l (a.put o.dst v) w := by
      split at h
      · rename_i hw
        obtain ⟨v, h1, h2⟩ := h
        exact ⟨v, .inl ⟨hw, h1⟩, h2⟩
      · rename_i hw
        exact ⟨undef, .inr ⟨by simpa using hw, rfl⟩, h⟩
    obtain ⟨v, hy, hK⟩ := hy
    have hr' : i ∈ Region.ready md ops listed := by simpa using hr
    exact wpAnyP_first gs gr gs (fun _ _ h => h) ho hL (f := 2) (.inl fun t ht => List.all_eq_true.1 hall t (by simpa using ht)) (Region.noSelect_spec hs) l.length listed a w inv (Region.free_spec ho hf) hr' hy (mix_sound gs gr sub hs l _ _ _ (inv.set hr') hB' hK)

theorem wp_region_mix3 (gs : Grow S) (gr : Grow R) (sub : ∀ a b, S a b → R a b) {id : Nat} {Q : Exit → Act → World → Prop} {a : Act} {w : World} {l : List Oper} (L : List Nat) (order : List (Nat × Nat)) (hm : P.follows .mixedOrders = true) (hB : mixB L l.toArray order = true)
    (h : mix S R P l.toArray (fun a' w' => Q .normal a' w') order a w.drew) : (Code.region id l.toArray true).wp P Q a w := by
  simp only [mixB, Bool.and_eq_true, beq_iff_eq] at hB
  obtain ⟨⟨h1, h2⟩, h3⟩ := hB
  refine wp_region_any hm (wpAny_of_P (L := L) (R := R) gs (Q := fun a' w' => Q .normal a' w') (fun _ _ h => h) _ _ _ _ ?_)
  rw [← h2]
  exact mix_sound gs gr sub h1 order _ a _ ⟨by simpa using h2, fun j oj _ hl => (by rw [getD_replicate_false] at hl; cases hl)⟩ (by rw [h2]; exact h3) h

theorem mix3_soft {Q : Act → World → Prop} {l : List Oper} {i : Nat} {rest : List (Nat × Nat)} {o : Oper} {a : Act} {W : World} (ho : l[i]? = some o)
    (h : ∀ K : Act → Prop, (∀ a', mix S R P l.toArray Q rest a' W → K a') → if Region.wanted o (yielded l.toArray a.tmps) then soft S R P o a W K else K (a.put o.dst undef)) :
    mix S R P l.toArray Q ((i, 0) :: rest) a W := by
  simp only [mix]
  exact ⟨o, by simpa using ho, h _ fun _ h => h⟩
theorem mix3_soon {Q : Act → World → Prop} {l : List Oper} {i : Nat} {rest : List (Nat × Nat)} {o : Oper} {a : Act} {W : World} (ho : l[i]? = some o)
    (h : ∀ K : Act → Prop, (∀ a', mix S R P l.toArray Q rest a' W → K a') → if Region.wanted o (yielded l.toArray a.tmps) then soft S S P o a W K else K (a.put o.dst undef)) :
    mix S R P l.toArray Q ((i, 2) :: rest) a W := by
  simp only [mix]
  exact ⟨o, by simpa using ho, h _ fun _ h => h⟩
theorem mix3_loud {Q : Act → World → Prop} {l : List Oper} {i : Nat} {rest : List (Nat × Nat)} {o : Oper} {a : Act} {W : World} (ho : l[i]? = some o)
    (h : ∀ K : Act → World → Prop, (∀ a' w', mix S R P l.toArray Q rest a' w' → K a' w') → if Region.wanted o (yielded l.toArray a.tmps) then ∀ x : LaterR S W, hOper R P o a x.1 K else K (a.put o.dst undef) W) :
    mix S R P l.toArray Q ((i, 1) :: rest) a W := by
  simp only [mix]
  exact ⟨o, by simpa using ho, h _ fun _ _ h => h⟩
theorem mix3_done {Q : Act → World → Prop} {a : Act} {W : World} (h : ∀ w', S W w' → Q a w') : mix S R P ops Q [] a W := by
  simp only [mix]
  exact h
/-- The world itself, and any. -/
instance selfSome (W : World) : Nonempty (LaterR (fun w w' : World => w = w') W) := ⟨⟨W, rfl⟩⟩
instance anySome (W : World) : Nonempty (LaterR (fun _ _ : World => True) W) := ⟨⟨W, trivial⟩⟩
@[go_sem] theorem self_eq {W : World} (x : LaterR (fun w w' : World => w = w') W) : x.1 = W := x.2.symm
end
end Go.Proofs.YtmapmeacjpoaoaaDoor.Two.Ph
namespace Go.Proofs.YtmapmeacjpoaoaaDoor.Two.Ph
open Go Go.RowKit

section
variable {P : Program} {ops : Array Oper} {md : Region.Mode} {S R T : World → World → Prop} {L : List Nat}

def noDefer (ops : Array Oper) : Bool := ops.all fun o => match o.op with | .defer _ => false | _ => true
theorem noDefer_spec {ops : Array Oper} (h : noDefer ops = true) {i : Nat} {o : Oper} (ho : ops[i]? = some o) : ∀ c, o.op ≠ .defer c := by
  intro c hc
  have h1 := Array.all_eq_true'.1 h o (Array.mem_of_getElem? ho)
  simp only [hc] at h1
  cases h1

theorem wpOpIn_of_hOp {l n : Nat} (hd : noDefer ops = true) {i : Nat} {a : Act} {w : World} {K K' : Act → World → Prop} {Q : Exit → Act → World → Prop} (h : ∀ a w', K a w' → K' a w') (hh : hOp R P ops i K a w) :
    wpOpIn (Fence.wide.inRound l) n P ops Q i K' a w := by
  unfold hOp at hh
  unfold wpOpIn
  split
  · rename_i ho; simp only [ho] at hh
  · rename_i o ho
    simp only [ho] at hh
    split
    · rename_i hw
      simp only [hw, if_true] at hh
      unfold hOper at hh
      unfold Oper.wpIn
      refine ⟨fun _ _ => trivial, ?_⟩
      rw [Oper.semAt_eq _ _ _ (noDefer_spec hd ho)]
      generalize (execOp a.eval o).run P w = r at *
      cases r with
      | ok nx w' =>
        cases nx <;> simp only [yieldsTo] at hh <;> simp only [Oper.uponIn] <;> first
          | exact hh.elim
          | exact h _ _ hh.2
          | (refine ⟨(fun hz => by cases hz), ?_⟩
             refine ((callsIn_wide.2 hh.2).inRound l).mono ?_
             rintro e w'' ⟨v, h1, h2, h3⟩
             subst h1
             exact h _ _ h3)
      | halt x w' => exact hh.elim
    · rename_i hw
      simp only [hw] at hh
      exact ⟨fun _ _ => trivial, h _ _ hh⟩

theorem wpAnyIn_of_P {l n : Nat} (hd : noDefer ops = true) (gs : Grow S) {Q : Act → World → Prop} {Q' : Exit → Act → World → Prop} (hQ : ∀ a w, Q a w → Q' .normal a w) : ∀ (fuel : Nat) (listed : Array Bool) (a : Act) (w : World),
    wpAnyP L S R P md ops Q fuel listed a w → wpAnyIn (Fence.wide.inRound l) n P md ops Q' fuel listed a w
  | 0, _, _, _, h => ⟨h.1, hQ _ _ (h.2 _ (gs.refl _))⟩
  | fuel + 1, _, _, _, h => ⟨fun h0 => hQ _ _ (h.1 h0 _ (gs.refl _)), fun i hi => wpOpIn_of_hOp hd (fun a' w' => wpAnyIn_of_P hd gs hQ fuel _ a' w') (h.2 i hi _ (gs.refl _))⟩

theorem wpIn_region_mix3 (gs : Grow S) (gr : Grow R) (sub : ∀ a b, S a b → R a b) {k n id : Nat} {Q : Exit → Act → World → Prop} {a : Act} {w : World} {l : List Oper} (L : List Nat) (order : List (Nat × Nat)) (hd : noDefer l.toArray = true) (hm : P.follows .mixedOrders = true) (hB : mixB L l.toArray order = true)
    (h : mix S R P l.toArray (fun a' w' => Q .normal a' w') order a w.drew) : (Code.region id l.toArray true).wpIn (Fence.wide.inRound k) n P Q a w := by
  simp only [mixB, Bool.and_eq_true, beq_iff_eq] at hB
  obtain ⟨⟨h1, h2⟩, h3⟩ := hB
  refine wpIn_region_any hm (wpAnyIn_of_P (L := L) (R := R) hd gs (Q := fun a' w' => Q .normal a' w') (fun _ _ h => h) _ _ _ _ ?_)
  rw [← h2]
  exact mix_sound gs gr sub h1 order _ a _ ⟨by simpa using h2, fun j oj _ hl => (by rw [getD_replicate_false] at hl; cases hl)⟩ (by rw [h2]; exact h3) h
end
end Go.Proofs.YtmapmeacjpoaoaaDoor.Two.Ph
namespace Go.Proofs.YtmapmeacjpoaoaaDoor
open Go Go.RowKit Go.Shelf
attribute [local go_sem] Oper.semAt_some

/-- Where the iterator finds the operations: in block bL, as they lay in the world w0. -/
def BackAt (bL : Nat) (w0 : World) (vl : Value) (W : World) : Prop := W.heap[bL]? = some (.cells #[vl] 28 (0, 0)) ∧ Below w0.heap.size w0 W
set_option maxRecDepth 4000 in
set_option maxHeartbeats 2000000 in
theorem backward1_in (n bL : Nat) (w0 : World) (ao : Option Addr) (N cap : Nat) (l : List Opr) (hl : Os w0 (.slice ao N cap) l) (hN : l.length = N) (hN1 : N ≤ 1000000) :
    IterIn Fence.wide n Tryd.prog 60 #[.pointer (some ⟨bL, 0, none⟩)] (fun x : Nat × Rop => #[.int .i64 (x.1 : Int), opv x.2]) (fun A B => A = B) (fun A W => BackAt bL w0 (.slice ao N cap) A → BackAt bL w0 (.slice ao N cap) W)
      (fun pre x => x.1 + 1 + pre.length = N ∧ ∃ o a q c, l[x.1]? = some o ∧ x.2 = o.put (.slice a q c)) (fun xs => xs.length = N) (fun _ => True) (BackAt bL w0 (.slice ao N cap)) := by
  intro lp J Jx W hst hJ hY h0
  have HL := Lib.hid hl
  clear hl
  refine callsIn_of_wp Tryd.func60 rfl trivial ?_ rfl
  simp only [Tryd.ntmps60, List.size_toArray, List.length_cons, List.length_nil, Nat.reduceAdd, Nat.reduceSub, Array.replicate_succ, Array.replicate_zero, List.push_toArray, List.append_toArray, List.nil_append, List.cons_append]
  have f0 : IntKind.i64.wrap ((N : Int) - 1) = (N : Int) - 1 := by rw [IntKind.wrap_i64] <;> omega
  have hc := cell_of_one hst.1
  gi_wp2_with fail
  gi_loopw [3] (fun i wr => ∃ (m : Nat) (pre : List (Nat × Rop)), i = .int .i64 ((m : Int) - 1) ∧ m + pre.length = N ∧ Hid (BackAt bL w0 (.slice ao N cap) wr) ∧ J pre wr)
    (fun i _ => (intOf i + 1).toNat)
  case atStart => exact ⟨N, [], rfl, rfl, hst, h0⟩
  case round =>
    clear hc f0 hst h0
    obtain ⟨m, pre, rfl, hm, hst, hj⟩ := hrel
    by_cases hm0 : 0 < m
    · obtain ⟨j, rfl⟩ : ∃ j, m = j + 1 := ⟨m - 1, by omega⟩
      have hjn : j < N := by omega
      rw [show ((j + 1 : Nat) : Int) - 1 = (j : Int) by omega]
      have hj0 : (0 : Int) ≤ (j : Int) := by omega
      have hjI : (j : Int) < (N : Int) := by omega
      have i7 : IntKind.i64.wrap ((j : Int) - 1) = (j : Int) - 1 := by rw [IntKind.wrap_i64] <;> omega
      obtain ⟨b, off, u, rfl, hks, hat⟩ := HL.out.at (j := j) (by rw [hN]; exact hjn)
      obtain ⟨ua, uc, rfl, -⟩ := hks.shape
      generalize (l[j]'(by rw [hN]; exact hjn)).keep.length = uq at *
      clear hks
      have hx : l[j]? = some (l[j]'(by rw [hN]; exact hjn)) := List.getElem?_eq_getElem _
      obtain ⟨o, ho⟩ : ∃ o, l[j]'(by rw [hN]; exact hjn) = o := ⟨_, rfl⟩
      rw [ho] at hat hx
      obtain ⟨p0, p1, p2, p3, p4, p5, p6, p7, p8, p9, p10⟩ := hat wr hst.out.2
      have hc := cell_of_one hst.out.1
      obtain ⟨fn, tmps, assign, body, hyy, hR⟩ := hY pre (j, o.put (.slice ua uq uc)) wr hj ⟨by simp only []; omega, o, ua, uq, uc, hx, rfl⟩
      clear ho hat hY hj hx
      obtain ⟨o0, o1, o2, o3, o4, o5, o6, o7, o8, o9, k⟩ := o
      simp only [Op11.put] at p0 p1 p2 p3 p4 p5 p6 p7 p8 p9 p10 hyy hR
      have HR := Lib.hid hR
      clear hR
      gi_wp2_with fail
      refine ⟨fun h => (by cases h), ?_⟩
      refine HR.out.mono ?_
      rintro e W' (⟨rfl, hj2, hk2⟩ | ⟨rfl, hjx⟩)
      · have hst2 := Lib.hid (hk2 hst.out)
        clear hk2 hst p0 p1 p2 p3 p4 p5 p6 p7 p8 p9 p10 hc hyy HR
        gi_wp2_with fail
        refine ⟨⟨j, _, rfl, ?_, hst2, hj2⟩, ?_⟩
        · rw [List.length_append, List.length_singleton]; omega
        · simp [intOf]
      · have hfin : Hid (∃ pre, True ∧ Jx pre W') := ⟨_, trivial, hjx⟩
        clear hjx hst p0 p1 p2 p3 p4 p5 p6 p7 p8 p9 p10 hc hyy HR
        gi_wp2_with fail
        refine bodyPost_ret (results_none rfl _ _ _) rfl ?_
        exact ⟨⟨_, rfl⟩, .inr hfin.out⟩
    · obtain rfl : m = 0 := by omega
      rw [show ((0 : Nat) : Int) - 1 = -1 from rfl]
      have hfin : Hid (∃ xs : List (Nat × Rop), xs.length = N ∧ J xs wr) := ⟨pre, by omega, hj⟩
      clear hj hY hJ
      gi_wp2_with fail
      go_end0
      exact ⟨⟨_, rfl⟩, .inl hfin.out⟩

set_option maxHeartbeats 400000 in
theorem backward_any (ao : Option Addr) (N cap : Nat) (w : World) :
    Calls Tryd.prog 35 #[.slice ao N cap] w fun e w' => e = .returned (.func (.func 60) #[] #[.pointer (some ⟨w.heap.size, 0, none⟩)]) ∧ w' = w.alloc (.cells #[.slice ao N cap] 28) := by
  go_enter Tryd.func35, Tryd.ntmps35
  go_wp2_with fail
  go_ret
  exact ⟨rfl, rfl⟩
end Go.Proofs.YtmapmeacjpoaoaaDoor
namespace Go.Proofs.YtmapmeacjpoaoaaDoor
open Go Go.RowKit Go.Shelf
attribute [local go_sem] Oper.semAt_some

theorem keepsFrom_of_below {B : Nat} {W W' : World} (h : Below W.heap.size W W') : KeepsFrom B W W' :=
  ⟨h.size, fun k _ _ hk _ => (h.block k (Array.getElem?_eq_some_iff.1 hk).1).trans hk⟩
theorem heap_put {W : World} {l k : Nat} {o : Obj} (h : k ≠ l) : (W.putObj l o).heap[k]? = W.heap[k]? := World.putObj_heap_other h
/-- 'make([]T, n)' within a fence. -/
theorem wpListIn_make_sl {F : Fence} {n : Nat} {P : Program} {w : World} {ops : Array Oper} {rest : List Oper} {o : Oper} {a : Act} {Q : Exit → Act → World → Prop}
    (hg : o.guard = none) (l c : Operand) (t : TypeId) (hop : o.op = Op.makeSlice t l c)
    (base : Nat) (e : TypeId) (z : Value) (size bytes : Nat) (ht : P.underlying t = some (.slice e)) (hinfo : (P.info? e).map (fun i => (i.zero, i.size, i.bytes)) = some (some z, size, bytes))
    (kl kc : IntKind) (m : Nat) (hl : a.eval l = .int kl m) (hc : a.eval c = .int kc m) (b2 : bytes * m ≤ 281474976710656) (b3 : m ≤ maxLen) (b4 : base ≤ w.heap.size)
    (hK : ∀ w', w'.ownsRow base e size (.slice (some ⟨w.heap.size, 0, none⟩) m m) m (madeCells z.cells (m * size)).toList → w.grownBy w' none → wpListIn F n P ops Q rest (a.put o.dst (.slice (some ⟨w.heap.size, 0, none⟩) m m)) w') :
    wpListIn F n P ops Q (o :: rest) a w := by
  obtain ⟨i, hi, hz, h4, h5⟩ := info_parts hinfo
  refine wpListIn_plain hg fun K hK' => ?_
  obtain ⟨w', hrun, r1, r2⟩ := run_make_full (P := P) w base t e i z size ht hi hz h4 kl kc m (by rw [h5]; exact b2) b3 b4
  unfold Oper.wpIn
  refine ⟨?_, ?_⟩
  · simp [Oper.about, hop]
  · rw [Oper.semAt_plain F _ _ (by rw [hop]; intro c hc'; cases hc')]
    simp [execOp, hop, hl, hc, hrun, Result.andThen]
    exact hK' _ _ (hK w' r1 r2)
theorem ownsRow.same {w w' : World} {base t sz n g len cap : Nat} {cs : List Value} (h : w.ownsRow base t sz (.slice (some ⟨g, 0, none⟩) len cap) n cs) (hb : w'.heap[g]? = w.heap[g]?) : w'.ownsRow base t sz (.slice (some ⟨g, 0, none⟩) len cap) n cs := by
  refine ⟨h.1, ?_⟩
  rcases h.2 with h2 | ⟨g', cap', cur, e, hg, hh, r⟩
  · exact .inl h2
  · cases e
    exact .inr ⟨_, _, cur, rfl, hg, by rw [hb]; exact hh, r⟩

/-- What the rounds of purge.Sets find and leave. B: the configuration's block, behind it the row; C: the blocks of the row's slice, of the labels, of the operations. -/
structure SetsAt (w : World) (B C : Nat) (vn vu vq vg : Value) (vl : Value) (us : List Nat) (gs : List Gr) (d : Nat) (l : List Opr) (n m : Nat) (W : World) : Prop where
  conf : Cb W B vn vu vq vg
  row : W.ownsRow (B + 1) 53 1 (.slice (some ⟨B + 1, 0, none⟩) n n) n (u64Cells (L.fill us gs d l m))
  out : W.heap[C]? = some (.cells #[.slice (some ⟨B + 1, 0, none⟩) n n] 23 (0, 0))
  cur : BoxU W (C + 1) (L.cur us gs d (l.drop m))
  src : W.heap[C + 2]? = some (.cells #[vl] 28 (0, 0))
  below : Below B w W
theorem SetsAt.later {w : World} {B C : Nat} {vn vu vq vg vl : Value} {us : List Nat} {gs : List Gr} {d : Nat} {l : List Opr} {n m : Nat} {W W' : World} (h : SetsAt w B C vn vu vq vg vl us gs d l n m W) (hb : Below (C + 3) W W') (hBC : B + 1 < C) : SetsAt w B C vn vu vq vg vl us gs d l n m W' :=
  ⟨(hb.block B (by omega)).trans h.conf, ownsRow.same h.row (hb.block _ (by omega)), (hb.block _ (by omega)).trans h.out, (hb.block _ (by omega)).trans h.cur, (hb.block _ (by omega)).trans h.src, h.below.trans (hb.mono (by omega))⟩
/-- A round's stores. -/
theorem SetsAt.stored {w : World} {B C : Nat} {vn vu vq vg vl : Value} {us : List Nat} {gs : List Gr} {d : Nat} {l : List Opr} {n j y : Nat} {W : World} (h : SetsAt w B C vn vu vq vg vl us gs d l n (j + 1) W) (hBC : B + 1 < C) (hj : j < l.length) (hy : L.cur us gs d (l.drop j) = y) :
    SetsAt w B C vn vu vq vg vl us gs d l n j ((W.setCell ⟨C + 1, 0, none⟩ (.int .u64 (y : Int))).setCell ⟨B + 1, j, none⟩ (.int .u64 (y : Int))) := by
  have hr : (W.setCell ⟨C + 1, 0, none⟩ (.int .u64 (y : Int))).ownsRow (B + 1) 53 1 (.slice (some ⟨B + 1, 0, none⟩) n n) n (u64Cells (L.fill us gs d l (j + 1))) := ownsRow.same h.row (Below.heap_setCell W ⟨C + 1, 0, none⟩ _ _ (by simp; omega))
  have hr2 := own_store1 hr j y
  have hf := L.fill_set (us := us) (gs := gs) (d := d) hj
  rw [hy] at hf
  rw [hf] at hr2
  have far : ∀ k, k ≠ C + 1 → k ≠ B + 1 → ((W.setCell ⟨C + 1, 0, none⟩ (.int .u64 (y : Int))).setCell ⟨B + 1, j, none⟩ (.int .u64 (y : Int))).heap[k]? = W.heap[k]? := fun k h1 h2 => (Below.heap_setCell _ ⟨B + 1, j, none⟩ _ _ (by simpa using h2)).trans (Below.heap_setCell _ ⟨C + 1, 0, none⟩ _ _ (by simpa using h1))
  refine ⟨(far B (by omega) (by omega)).trans h.conf, hr2, (far _ (by omega) (by omega)).trans h.out, ?_, (far _ (by omega) (by omega)).trans h.src, (h.below.setCell (p := ⟨C + 1, 0, none⟩) (by simp; omega) _).setCell (p := ⟨B + 1, j, none⟩) (by simp) _⟩
  rw [hy]
  exact (Below.heap_setCell _ ⟨B + 1, j, none⟩ _ _ (by simp; omega)).trans (h.cur.put y)
/-- The same, where the labels stay as they are. -/
theorem SetsAt.kept {w : World} {B C : Nat} {vn vu vq vg vl : Value} {us : List Nat} {gs : List Gr} {d : Nat} {l : List Opr} {n j y : Nat} {W : World} (h : SetsAt w B C vn vu vq vg vl us gs d l n (j + 1) W) (hBC : B + 1 < C) (hj : j < l.length) (hy : L.cur us gs d (l.drop j) = y) (hy2 : L.cur us gs d (l.drop (j + 1)) = y) :
    SetsAt w B C vn vu vq vg vl us gs d l n j (W.setCell ⟨B + 1, j, none⟩ (.int .u64 (y : Int))) := by
  have hr2 := own_store1 h.row j y
  have hf := L.fill_set (us := us) (gs := gs) (d := d) hj
  rw [hy] at hf
  rw [hf] at hr2
  have far : ∀ k, k ≠ B + 1 → (W.setCell ⟨B + 1, j, none⟩ (.int .u64 (y : Int))).heap[k]? = W.heap[k]? := fun k h2 => Below.heap_setCell _ ⟨B + 1, j, none⟩ _ _ (by simpa using h2)
  have hs := h.cur
  rw [hy2] at hs
  refine ⟨(far B (by omega)).trans h.conf, hr2, (far _ (by omega)).trans h.out, ?_, (far _ (by omega)).trans h.src, h.below.setCell (p := ⟨B + 1, j, none⟩) (by simp) _⟩
  rw [hy]
  exact (far _ (by omega)).trans hs

set_option maxRecDepth 4000 in
set_option maxHeartbeats 4000000 in
theorem sets_in (n0 : Nat) (vn vu vq vg vl : Value) (us : List Nat) (gs : List Gr) (l : List Opr) (level : Int) (w : World) (hu : Us w vu us) (hU : U64s us) (hg : Gs w vg gs) (hl : Os w vl l) (hlen : l.length ≤ 1000000) :
    CallsIn Fence.wide (n0 + 6) Tryd.prog 13 #[cfv vn vu vq vg, vl, .int .i64 level] w fun e w' => ∃ v', e = .returned v' ∧ w'.ownsRow w.heap.size 53 1 v' l.length (u64Cells (L.sets us gs (L.down us level) l)) ∧ Below w.heap.size w w' := by
  obtain ⟨ao, cap, rfl, -⟩ := hl.shape
  have HL := Lib.hid hl
  have HF := Lib.hid (fun W (hW : Below w.heap.size w W) (o : Opr) (u : Value) (s : Nat) (hs : s < 18446744073709551616) => flows_any vn vu vq vg gs o u s W (Three.Ss.below hg hW) hs)
  have HD := Lib.hid (fun W (hW : Below w.heap.size w W) (a : Int) => down_any vu us a W (hu.below hW) hU)
  have hdlt := L.down_lt us level
  obtain ⟨n, hn⟩ : ∃ n, l.length = n := ⟨_, rfl⟩
  rw [hn] at HL hlen ⊢
  have HN := Lib.hid hn
  have hfs : Hid (L.fill us gs (L.down us level) l n = List.replicate n 0) := by rw [← hn]; exact L.fill_start _ _ _ _
  have HCB := Lib.hid (Cb.new w vn vu vq vg)
  have hb1 : Hid (Below w.heap.size w (w.alloc (.cells #[vn, vu, vq, vg] 27))) := (Below.refl _ _).alloc (Nat.le_refl _) _
  have hs1 : (w.alloc (.cells #[vn, vu, vq, vg] 27)).heap.size = w.heap.size + 1 := by simp
  clear hl hg hu hU hn
  refine callsIn_of_wp_marks Tryd.func13 rfl trivial ?_ rfl
  simp only [Tryd.ntmps13, List.size_toArray, List.length_cons, List.length_nil, Nat.reduceAdd, Nat.reduceSub, Array.replicate_succ, Array.replicate_zero, List.push_toArray, List.append_toArray, List.nil_append, List.cons_append]
  gi_wp2_with (gi_at_make; refine wpListIn_make_sl rfl _ _ 23 rfl (w.heap.size + 1) 53 (.int .u64 0) 1 8 Tryd.underlying23 infoU64 _ _ n rfl rfl (by omega) (by unfold maxLen; omega) (by rw [hs1]; exact Nat.le_refl _) ?_; intro w1 hown hgrow; have q1 := ((HCB.out.grown hgrow (by simp)).later ((Below.refl _ w1).alloc (Nat.le_refl _) (.cells #[.slice (some ⟨w.heap.size + 1, 0, none⟩) n n] 23))).cell.2.1)
  obtain ⟨B, hB⟩ : ∃ B, w.heap.size = B := ⟨_, rfl⟩
  have HB := Lib.hid hB
  rw [hs1] at hown
  have HC1 := Lib.hid (HCB.out.grown hgrow (by simp))
  have hb2 : Hid (Below w.heap.size w w1) := hb1.out.grown hgrow hb1.out.size (fun k hk => by cases hk)
  have hown2 : Hid (w1.ownsRow (w.heap.size + 1) 53 1 (.slice (some ⟨w.heap.size + 1, 0, none⟩) n n) n (u64Cells (L.fill us gs (L.down us level) l n))) := by
    rw [show (Value.int IntKind.u64 0).cells = #[.int .u64 0] from rfl, toList_madeCells_one] at hown
    unfold Hid
    rw [hfs.out, u64Cells_zeros]
    simpa using hown
  have hlt1 : B + 1 < w1.heap.size := by
    rw [← hB]
    exact (hown.lt _ rfl).2
  obtain ⟨C, hC⟩ : ∃ C, w1.heap.size = C := ⟨_, rfl⟩
  have hb3 : Hid (Below w.heap.size w (w1.alloc (.cells #[.slice (some ⟨w.heap.size + 1, 0, none⟩) n n] 23))) := hb2.out.alloc hb2.out.size _
  have s := Lib.hid (HD.out _ hb3.out level)
  obtain ⟨d, hd⟩ : ∃ d, L.down us level = d := ⟨_, rfl⟩
  have HDD := Lib.hid hd
  rw [hd] at s hdlt hfs hown2
  rw [hB] at hown2 s HC1 hb3
  try rw [hB]
  try rw [hC]
  rw [hC] at hlt1
  clear hown hgrow HCB hb1 hs1 hb2
  refine ⟨trivial, ?_⟩
  refine (callsIn_wide.2 s.out).mono ?_
  rintro e w2 ⟨rfl, rfl⟩
  clear s q1
  gi_wp2_with fail
  refine ⟨trivial, ?_⟩
  refine (callsIn_wide.2 (backward_any ao n cap _)).mono ?_
  rintro e w' ⟨rfl, rfl⟩
  gi_wp2_with fail
  obtain ⟨W0, hW0⟩ : ∃ W0, ((w1.alloc (.cells #[.slice (some ⟨B + 1, 0, none⟩) n n] 23)).alloc (.cells #[.int .u64 d] 53)).alloc (.cells #[.slice ao n cap] 28) = W0 := ⟨_, rfl⟩
  have hsz : W0.heap.size = C + 3 := by rw [← hW0]; simp [hC]
  have hbw : Below C w1 W0 := by rw [← hW0]; exact ((((Below.refl _ w1).alloc (Nat.le_of_eq hC.symm) _).alloc (by simp; omega) _).alloc (by simp; omega) _)
  have hb0 : W0.heap[C]? = some (.cells #[.slice (some ⟨B + 1, 0, none⟩) n n] 23 (0, 0)) := by
    rw [← hW0, ← hC]; exact (Below.heap_alloc _ _ _ (by simp; omega)).trans ((Below.heap_alloc _ _ _ (by simp)).trans (World.alloc_heap_new w1 _))
  have hb1 : W0.heap[C + 1]? = some (.cells #[.int .u64 d] 53 (0, 0)) := by
    rw [← hW0]
    have := World.alloc_heap_new (w1.alloc (.cells #[.slice (some ⟨B + 1, 0, none⟩) n n] 23)) (.cells #[.int .u64 d] 53)
    rw [World.size_alloc, hC] at this
    exact (Below.heap_alloc _ _ _ (by simp; omega)).trans this
  have hb2 : W0.heap[C + 2]? = some (.cells #[.slice ao n cap] 28 (0, 0)) := by
    rw [← hW0]
    have := World.alloc_heap_new ((w1.alloc (.cells #[.slice (some ⟨B + 1, 0, none⟩) n n] 23)).alloc (.cells #[.int .u64 d] 53)) (.cells #[.slice ao n cap] 28)
    rw [World.size_alloc, World.size_alloc, hC] at this
    exact this
  have hbel : Below w.heap.size w W0 := by
    rw [← hW0, HB.out]
    exact (hb3.out.alloc (by have := hb3.out.size; omega) _).alloc (by have := hb3.out.size; simp at this ⊢; omega) _
  try rw [hC]
  rw [hW0]
  clear hW0
  have hS0 : Hid (SetsAt w B C vn vu vq vg (.slice ao n cap) us gs d l n n W0) :=
    ⟨(hbw.block B (by omega)).trans HC1.out, ownsRow.same hown2.out (hbw.block _ (by omega)), hb0, by unfold BoxU; rw [List.drop_of_length_le (Nat.le_of_eq HN.out)]; exact hb1, hb2, by rw [← HB.out]; exact hbel⟩
  clear hb0 hb1 hbw HC1 hown2 hb3
  have hdN := Lib.hid hdlt
  clear hdlt
  refine range_outer rfl (by omega) (gf := 60) (lb := #[.pointer (some ⟨C + 2, 0, none⟩)]) rfl trivial (enters_of Tryd.func60 (by kernel_rfl) rfl)
    (backward1_in (n0 + 6 - 1) (C + 2) w ao n cap l HL.out HN.out hlen) (fun _ => rfl)
    ?hTo (fun h k x => k (h x)) ?hKb
    (fun pre W => ∃ m, m + pre.length = n ∧ SetsAt w B C vn vu vq vg (.slice ao n cap) us gs d l n m W) (fun _ _ _ => False)
    ?hIT ?hIb (fun _ _ _ _ _ _ _ h => h.elim) ?h0 ?hstart ?hround ?hdone (fun _ _ _ _ h => h.elim)
  case hTo =>
    rintro A D k o rfl hk ho
    exact hk
  case hKb =>
    rintro W l o hl ⟨h1, h2⟩
    exact ⟨(heap_put (by omega)).trans h1, below_put h2 (by rw [HB.out]; omega) _⟩
  case hIT =>
    rintro s A D h rfl
    exact h
  case hIb =>
    rintro s W l o o' hl ⟨m, hm, h⟩ hlo ho
    exact ⟨m, hm, h.later (below_put (Below.refl _ _) (by omega) _) hlt1⟩
  case h0 =>
    intro r
    exact ⟨n, rfl, hS0.out.later (((Below.refl _ W0).alloc (by omega) _).alloc (by simp; omega) _) hlt1⟩
  case hstart =>
    intro r
    exact ⟨(Below.heap_alloc _ _ _ (by simp; omega)).trans ((Below.heap_alloc _ _ _ (by omega)).trans hb2), (hbel.alloc hbel.size _).alloc (by have := hbel.size; simp; omega) _⟩
  case hround =>
    rintro lp pre ⟨i, r⟩ W hlp ⟨r', hlr⟩ ⟨m, hm, hS⟩ ⟨hi, o, ua, uq, uc, ho, hr⟩
    simp only [] at hi ho hr
    subst hr
    obtain rfl : m = i + 1 := by omega
    have HS := Lib.hid hS
    have hlW := (Array.getElem?_eq_some_iff.1 hlr).1
    clear hS hb2 hbel hS0
    obtain ⟨o0, o1, o2, o3, o4, o5, o6, o7, o8, o9, k⟩ := o
    simp only [Op11.put]
    have hil : i < l.length := by rw [HN.out]; omega
    have HCU : Hid (L.cur us gs d (l.drop i) = L.step us gs ⟨o0, o1, o2, o3, o4, o5, o6, o7, o8, o9, k⟩ (L.cur us gs d (l.drop (i + 1)))) := by
      have h1 := L.cur_step (us := us) (gs := gs) (d := d) hil
      have h2 : l[i] = ⟨o0, o1, o2, o3, o4, o5, o6, o7, o8, o9, k⟩ := by
        have := List.getElem?_eq_getElem hil
        rw [ho] at this
        exact (Option.some.inj this).symm
      rw [h2] at h1
      exact h1
    have hslt := L.cur_lt (us := us) (gs := gs) hdN.out (l.drop (i + 1))
    obtain ⟨s, hs⟩ : ∃ s, L.cur us gs d (l.drop (i + 1)) = s := ⟨_, rfl⟩
    rw [hs] at HCU hslt
    have HSS := Lib.hid hs
    have HIL := Lib.hid hil
    clear hs ho hil
    gi_wp2_with fail
    refine ⟨keepsFrom_of_below ((Below.refl _ W).alloc (Nat.le_refl _) _), ?_⟩
    intro r2
    obtain ⟨W2, hW2⟩ : ∃ W2, (W.alloc (.cells #[.int .i64 o0, .int .i64 o1, .int .i64 o2, .int .i64 o3, .string (str o4), .string (str o5), .string (str o6), .int .i64 o7, .int .i64 o8, .int .i64 o9, .slice ua uq uc] 33)).putObj lp (.loop r2) = W2 := ⟨_, rfl⟩
    have hB2 : Below lp W W2 := by rw [← hW2]; exact below_put ((Below.refl _ W).alloc (Nat.le_of_lt hlW) _) (Nat.le_refl _) _
    have hz2 : W2.heap.size = W.heap.size + 1 := by rw [← hW2, size_put]; simp
    have hp2 : W2.heap[W.heap.size]? = some (.cells #[.int .i64 o0, .int .i64 o1, .int .i64 o2, .int .i64 o3, .string (str o4), .string (str o5), .string (str o6), .int .i64 o7, .int .i64 o8, .int .i64 o9, .slice ua uq uc] 33 (0, 0)) := by rw [← hW2]; exact (heap_put (by omega)).trans (World.alloc_heap_new W _)
    have hS2 := Lib.hid (HS.out.later (hB2.mono (by omega)) hlt1)
    rw [hW2]
    clear hW2 hB2 HS hlr
    obtain ⟨p, hp⟩ : ∃ p, W.heap.size = p := ⟨_, rfl⟩
    rw [hp] at hz2 hp2 hlW
    try rw [hp]
    have HP := Lib.hid hp2
    have hw2 : Hid (Below w.heap.size w W2) := by rw [HB.out]; exact hS2.out.below
    obtain ⟨q0, q1, q2, q3⟩ := hS2.out.conf.cell
    have r0 := cell_of_row W2 p 0 _ _ (0, 0) hp2
    have r1 := cell_of_row W2 p 1 _ _ (0, 0) hp2
    have r2 := cell_of_row W2 p 2 _ _ (0, 0) hp2
    have r3 := cell_of_row W2 p 3 _ _ (0, 0) hp2
    have r4 := cell_of_row W2 p 4 _ _ (0, 0) hp2
    have r5 := cell_of_row W2 p 5 _ _ (0, 0) hp2
    have r6 := cell_of_row W2 p 6 _ _ (0, 0) hp2
    have r7 := cell_of_row W2 p 7 _ _ (0, 0) hp2
    have r8 := cell_of_row W2 p 8 _ _ (0, 0) hp2
    have r9 := cell_of_row W2 p 9 _ _ (0, 0) hp2
    have r10 := cell_of_row W2 p 10 _ _ (0, 0) hp2
    have cc := cell_of_one hS2.out.cur
    rw [HSS.out] at cc
    have HF1 := Lib.hid (HF.out W2 hw2.out ⟨o0, o1, o2, o3, o4, o5, o6, o7, o8, o9, k⟩ (.slice ua uq uc) s hslt)
    cases hfl : L.flows gs ⟨o0, o1, o2, o3, o4, o5, o6, o7, o8, o9, k⟩ s with
    | true =>
      rw [hfl] at HF1
      have hstep : L.step us gs ⟨o0, o1, o2, o3, o4, o5, o6, o7, o8, o9, k⟩ s = s ||| L.down us o1 := by unfold L.step; rw [hfl]; rfl
      have hdl := L.down_lt us o1
      have hor := u64_or_nat s (L.down us o1) hslt hdl
      have HDx := Lib.hid (fun W (hW : Below w.heap.size w W) => HD.out W hW o1)
      rw [hstep] at HCU
      obtain ⟨x, hx⟩ : ∃ x, L.down us o1 = x := ⟨_, rfl⟩
      rw [hx] at hor HDx HCU
      obtain ⟨y, hy⟩ : ∃ y, s ||| x = y := ⟨_, rfl⟩
      rw [hy] at hor HCU
      clear hfl hstep hx hy hdl
      gi_wp2_with fail
      refine ⟨trivial, ?_⟩
      refine ((callsIn_wide.2 HF1.out).inRound lp).mono ?_
      rintro e W3 ⟨rfl, hb3⟩
      have hS3 : Hid (SetsAt w B C vn vu vq vg (.slice ao n cap) us gs d l n (i + 1) W3) := hS2.out.later (hb3.mono (by omega)) hlt1
      have hp3 := (hb3.block p (by omega)).trans hp2
      have hK3 : Hid (KeepsFrom W0.heap.size W2 W3) := keepsFrom_of_below hb3
      clear hb3 HF1 q0 q1 q2 q3 r0 r1 r2 r3 r4 r5 r6 r7 r8 r9 r10 cc hp2 HP hw2 hS2
      gi_wp2_with fail
      refine Two.Ph.wpIn_region_mix3 Two.Ph.eq_grow Two.Ph.any_grow (fun _ _ _ => trivial) [7] [(0, 2), (1, 2), (2, 2), (3, 2), (4, 2), (5, 2), (6, 2), (7, 1)] (by kernel_rfl) (by kernel_rfl) (by kernel_rfl) ?_
      have hS4 : Hid (SetsAt w B C vn vu vq vg (.slice ao n cap) us gs d l n (i + 1) W3.drew) := hS3.out.later (by exact ⟨rfl, rfl, rfl, Nat.le_refl _, fun _ _ => rfl⟩) hlt1
      have r1 := cell_of_row W3.drew p 1 _ _ (0, 0) hp3
      have hK4 : Hid (KeepsFrom W0.heap.size W2 W3.drew) := hK3.out.trans ((KeepsOthers.drew W3).from _)
      clear hS3 hK3 hp3
      generalize W3.drew = W4 at *
      have q1 := hS4.out.conf.cell.2.1
      have cc := cell_of_one hS4.out.cur
      have cf := free_of_one hS4.out.cur
      rw [HSS.out] at cc
      have HDy := Lib.hid (HDx.out W4 (by rw [HB.out]; exact hS4.out.below))
      repeat ((first | refine Two.Ph.mix3_soft rfl (fun K hK => ?_) | refine Two.Ph.mix3_soon rfl (fun K hK => ?_)); go_simp; (first | (refine hK _ ?_; clear hK K) | (apply Exists.intro; refine ⟨?_, hK _ ?_⟩; (first | (go_at_call 34; with_reducible exact HDy.out)); clear hK K)))
      clear r1 q1 HDy HDx
      refine Two.Ph.mix3_loud rfl (fun K hK => ?_)
      go_simp
      refine hK _ _ ?_
      clear hK K cc cf
      refine Two.Ph.mix3_done fun W5 hW5 => ?_
      have hb5 := cell_of_one ((Below.heap_setCell W4 ⟨C + 1, 0, none⟩ (.int .u64 (y : Int)) C (by simp)).trans hS4.out.out)
      have hc5 : (W4.setCell ⟨C + 1, 0, none⟩ (.int .u64 (y : Int))).cell? ⟨C + 1, 0, none⟩ = some (.int .u64 (y : Int)) := cell_of_one (hS4.out.cur.put y)
      have hr5 : (W4.setCell ⟨C + 1, 0, none⟩ (.int .u64 (y : Int))).ownsRow (B + 1) 53 1 (.slice (some ⟨B + 1, 0, none⟩) n n) n (u64Cells (L.fill us gs d l (i + 1))) := ownsRow.same hS4.out.row (Below.heap_setCell W4 ⟨C + 1, 0, none⟩ _ _ (by simp; omega))
      obtain ⟨v0, k0, k1⟩ := own_cell1 hr5 (j := i) (by omega)
      have hS6 := Lib.hid (hS4.out.stored hlt1 HIL.out HCU.out)
      have hK5 : Hid (KeepsFrom W0.heap.size W2 ((W4.setCell ⟨C + 1, 0, none⟩ (.int .u64 (y : Int))).setCell ⟨B + 1, i, none⟩ (.int .u64 (y : Int)))) := hK4.out.trans (((KeepsOthers.setCell _ _ _).from _).trans ((KeepsOthers.setCell _ _ _).from _))
      clear hr5 hS4 hK4
      subst hW5
      have hin0 : (0 : Int) ≤ (i : Int) := by omega
      have hinI : (i : Int) < (n : Int) := by omega
      gi_wp2_with fail
      exact ⟨hK5.out, fun _ => ⟨hS6.out.src, by rw [HB.out]; exact hS6.out.below⟩, i, by rw [List.length_append, List.length_singleton]; omega, hS6.out⟩
    | false =>
      rw [hfl] at HF1
      have hstep : L.step us gs ⟨o0, o1, o2, o3, o4, o5, o6, o7, o8, o9, k⟩ s = s := by unfold L.step; rw [hfl]; rfl
      rw [hstep] at HCU
      clear hfl hstep
      gi_wp2_with fail
      refine ⟨trivial, ?_⟩
      refine ((callsIn_wide.2 HF1.out).inRound lp).mono ?_
      rintro e W3 ⟨rfl, hb3⟩
      have hS4 : Hid (SetsAt w B C vn vu vq vg (.slice ao n cap) us gs d l n (i + 1) W3) := hS2.out.later (hb3.mono (by omega)) hlt1
      have hK4 : Hid (KeepsFrom W0.heap.size W2 W3) := keepsFrom_of_below hb3
      clear hb3 HF1 q0 q1 q2 q3 r0 r1 r2 r3 r4 r5 r6 r7 r8 r9 r10 cc hp2 HP hw2 hS2
      have hb5 := cell_of_one hS4.out.out
      have hc5 := cell_of_one hS4.out.cur
      rw [HSS.out] at hc5
      obtain ⟨v0, k0, k1⟩ := own_cell1 hS4.out.row (j := i) (by omega)
      have hS6 := Lib.hid (hS4.out.kept hlt1 HIL.out HCU.out HSS.out)
      have hK5 : Hid (KeepsFrom W0.heap.size W2 (W3.setCell ⟨B + 1, i, none⟩ (.int .u64 (s : Int)))) := hK4.out.trans ((KeepsOthers.setCell _ _ _).from _)
      clear hS4 hK4
      have hin0 : (0 : Int) ≤ (i : Int) := by omega
      have hinI : (i : Int) < (n : Int) := by omega
      gi_wp2_with fail
      exact ⟨hK5.out, fun _ => ⟨hS6.out.src, by rw [HB.out]; exact hS6.out.below⟩, i, by rw [List.length_append, List.length_singleton]; omega, hS6.out⟩
  case hdone =>
    rintro xs W hxs ⟨m, hm, hS⟩ hD
    obtain rfl : m = 0 := by omega
    have hc := cell_of_one hS.out
    have HS := Lib.hid hS
    have hrow := hS.row
    have hbw := hS.below
    rw [L.fill_end] at hrow
    clear hS hb2 hbel hS0
    gi_wp2_with fail
    refine ⟨by simp, .inl ⟨_, _, rfl, run_takeDeferred hD, ?_⟩⟩
    exact ⟨_, results_tmp rfl _ _ _, _, rfl, by rw [HB.out, HDD.out]; exact ownsRow.base (ownsRow_putObj hrow _ hD rfl) (by omega), by rw [HB.out]; exact below_put hbw (by omega) _⟩

theorem sets_any (vn vu vq vg vl : Value) (us : List Nat) (gs : List Gr) (l : List Opr) (level : Int) (w : World) (hu : Us w vu us) (hU : U64s us) (hg : Gs w vg gs) (hl : Os w vl l) (hlen : l.length ≤ 1000000) :
    Calls Tryd.prog 13 #[cfv vn vu vq vg, vl, .int .i64 level] w fun e w' => ∃ v', e = .returned v' ∧ w'.ownsRow w.heap.size 53 1 v' l.length (u64Cells (L.sets us gs (L.down us level) l)) ∧ Below w.heap.size w w' :=
  callsIn_wide.1 (sets_in 0 vn vu vq vg vl us gs l level w hu hU hg hl hlen)
end Go.Proofs.YtmapmeacjpoaoaaDoor
namespace Go.Proofs.YtmapmeacjpoaoaaDoor
open Go Go.RowKit

namespace L
def keeps (p : Int → Bool) (l : List (List UInt8)) : List (List UInt8) := (List.range l.length).map fun (k : Nat) => if p (k : Int) then l.getD k [] else []
theorem keeps_length (p : Int → Bool) (l : List (List UInt8)) : (keeps p l).length = l.length := by simp [keeps]
theorem keeps_at {p : Int → Bool} {l : List (List UInt8)} {k : Nat} (h : k < (keeps p l).length) : (keeps p l)[k] = if p (k : Int) then l[k]'(by rw [keeps_length] at h; exact h) else [] := by
  have hk : k < l.length := by rw [keeps_length] at h; exact h
  simp [keeps, hk]
def seen (p : Int → Bool) (o : Opr) : Bool := decide (o.kind = 16) || p o.level
def trim (p : Int → Bool) (o : Opr) : Opr := if o.kind = 16 then (if p o.level then { o with keep := keeps p o.keep } else { o with keep := keeps p o.keep, level := 0, ses := 0, n := 0 }) else o
def pick (p : Int → Bool) (o : Opr) : List Opr := if seen p o then [trim p o] else []
theorem trim_kept {p : Int → Bool} {o : Opr} (h : o.kind ≠ 16) : trim p o = o := by unfold trim; rw [if_neg h]
end L

theorem infoStr : (Tryd.prog.info? 9).map (fun i => (i.zero, i.size, i.bytes)) = some (some (.string (str [])), 1, 16) := by kernel_rfl
theorem infoOp : (Tryd.prog.info? 33).map (fun i => (i.zero, i.size, i.bytes)) = some (some (.agg #[.int .i64 0, .int .i64 0, .int .i64 0, .int .i64 0, .string (str []), .string (str []), .string (str []), .int .i64 0, .int .i64 0, .int .i64 0, .slice none 0 0]), 11, 128) := by kernel_rfl

set_option maxHeartbeats 400000 in
theorem strClone_any (v : Value) (l : List (List UInt8)) (w : World) (h : Ks w v l) (hl : l.length ≤ 100000) :
    Calls Tryd.prog 45 #[v] w fun e w' => ∃ v', e = .returned v' ∧ w'.ownsRow w.heap.size 9 1 v' l.length (strCells l) ∧ Below w.heap.size w w' := by
  have q : ∀ (w : World) (a : Option Addr) (n c n' c' : Nat), (binOp .eql 22 (.slice a n c) (.slice none n' c')).run Tryd.prog w = .ok (.bool a.isNone) w := fun w a n c n' c' => Lib.run_eql_slice_nil w _ _ a n c n' c' Tryd.underlying22
  obtain ⟨-, ao, cap, rfl, -, -, hn, -⟩ := id h
  cases ao with
  | none =>
    obtain rfl := hn rfl
    obtain rfl : l = [] := by
      obtain ⟨_, ao, cap, e, hc, -⟩ := h
      obtain ⟨-, -, rfl⟩ := Value.slice.inj e
      exact List.eq_nil_of_length_eq_zero (by omega)
    go_enter Tryd.func45, Tryd.ntmps45
    go_wp2_with fail
    go_ret
    exact ⟨_, rfl, World.ownsRow_nil _ _ _ _, Below.refl _ _⟩
  | some a =>
    go_enter Tryd.func45, Tryd.ntmps45
    have hb0 : Below w.heap.size w (w.alloc (.cells #[] 9)) := (Below.refl _ _).alloc (Nat.le_refl _) _
    have hown0 := Lib.hid (World.ownsRow_made (base := w.heap.size) (e := 9) (size := 1) w #[] 0 (Nat.le_refl _) (Nat.zero_le _) rfl)
    go_wp2_with (at_builtin; go_must (refine wpList_append_sl rfl _ _ 22 rfl w.heap.size 9 _ 1 16 Tryd.underlying22 infoStr rfl (by decide) _ _ _ rfl hown0.out _ l.length (strCells l) rfl (h.below hb0) (str_oneCell l) (by unfold maxLen; omega) (by omega) hb0.size ?_))
    intro v2 w2 hown2 hgrow _
    have hbel2 := hb0.grown hgrow hb0.size (ownBlock_ge hown0.out)
    try rw [Nat.zero_add, List.nil_append] at hown2
    have HO2 := Lib.hid hown2
    clear hown2 hgrow
    go_wp2_with fail
    go_ret
    exact ⟨_, rfl, HO2.out, hbel2⟩

/-- Texts that lay in the world w0, or that the call made. -/
def Kx (w0 w : World) (base : Nat) (u : Value) (l : List (List UInt8)) : Prop := Ks w0 u l ∨ w.ownsRow base 9 1 u l.length (strCells l)
theorem Kx.ks {w0 w : World} {base : Nat} {u : Value} {l : List (List UInt8)} (h : Kx w0 w base u l) (hb : Below w0.heap.size w0 w) : Ks w u l := by
  rcases h with h | h
  · exact h.below hb
  · exact Ks.of_owns h
theorem Kx.below {w0 w w' : World} {base : Nat} {u : Value} {l : List (List UInt8)} (h : Kx w0 w base u l) (hb : Below w.heap.size w w') : Kx w0 w' base u l := h.imp id fun h => ownsRow.below h hb
theorem ownsRow.beside {w w' : World} {base t sz n : Nat} {u : Value} {cs : List Value} (h : w.ownsRow base t sz u n cs) {base2 t2 sz2 n2 : Nat} {v : Value} {ds : List Value} (h2 : w.ownsRow base2 t2 sz2 v n2 ds) (ht : t ≠ t2) (hg : w.grownBy w' v.ownBlock) : w'.ownsRow base t sz u n cs := by
  refine ⟨h.1, ?_⟩
  rcases h.2 with h1 | ⟨g, cap, cur, rfl, hb, hh, r⟩
  · exact .inl h1
  · refine .inr ⟨g, cap, cur, rfl, hb, ?_, r⟩
    rw [hg.block g (Array.getElem?_eq_some_iff.1 hh).1 (fun e => ?_)]
    · exact hh
    · rcases h2.2 with ⟨rfl, -⟩ | ⟨g2, cap2, cur2, rfl, -, hh2, -⟩
      · simp [Value.ownBlock] at e
      · have : g = g2 := by simpa [Value.ownBlock] using e
        subst this
        rw [hh] at hh2
        simp only [Option.some.injEq, Obj.cells.injEq] at hh2
        exact ht hh2.2.1
theorem Kx.shape {w0 w : World} {base : Nat} {u : Value} {l : List (List UInt8)} (h : Kx w0 w base u l) : ∃ a n c, u = .slice a n c := by
  rcases h with h | h
  · obtain ⟨a, c, e, -⟩ := h.shape
    exact ⟨a, _, c, e⟩
  · rcases h.2 with ⟨e, -⟩ | ⟨g, c, cur, e, -⟩
    · exact ⟨_, _, _, e⟩
    · exact ⟨_, _, _, e⟩
/-- Operations of the call's own; what they keep lay in the world w0, or is the call's own too. -/
structure Ob (w0 w : World) (base : Nat) (v : Value) (l : List Opr) (us : List Value) : Prop where
  len : us.length = l.length
  own : w.ownsRow base 33 11 v l.length (opCells (List.zipWith Op11.put l us))
  each : ∀ i (h : i < us.length) (h2 : i < l.length), Kx w0 w base us[i] l[i].keep
theorem Ob.nil (w0 w : World) (base : Nat) : Ob w0 w base (.slice none 0 0) [] [] := ⟨rfl, World.ownsRow_nil _ _ _ _, fun i h => by simp at h⟩
theorem Ob.below {w0 w w' : World} {base : Nat} {v : Value} {l : List Opr} {us : List Value} (h : Ob w0 w base v l us) (hb : Below w.heap.size w w') : Ob w0 w' base v l us := ⟨h.len, ownsRow.below h.own hb, fun i a b => (h.each i a b).below hb⟩
theorem Ob.os {w0 w : World} {base : Nat} {v : Value} {l : List Opr} {us : List Value} (h : Ob w0 w base v l us) (hb : Below w0.heap.size w0 w) : Os w v l := ⟨us, h.len, Sl.of_owns h.own, fun i a b => (h.each i a b).ks hb⟩
theorem Ob.base {w0 w : World} {base base' : Nat} {v : Value} {l : List Opr} {us : List Value} (h : Ob w0 w base v l us) (hb : base' ≤ base) : Ob w0 w base' v l us := ⟨h.len, ownsRow.base h.own hb, fun i a b => (h.each i a b).imp id fun h => ownsRow.base h hb⟩
theorem Ob.push {w0 w w' : World} {base : Nat} {v v' u : Value} {l : List Opr} {us : List Value} {o : Opr} (h : Ob w0 w base v l us) (hu : Kx w0 w base u o.keep) (hg : w.grownBy w' v.ownBlock) (ho : w'.ownsRow base 33 11 v' (l.length + 1) (opCells (List.zipWith Op11.put l us) ++ opCells [o.put u])) : Ob w0 w' base v' (l ++ [o]) (us ++ [u]) := by
  refine ⟨by simp [h.len], ?_, fun i a b => ?_⟩
  · rw [List.zipWith_append (by exact h.len.symm), opCells_append, List.length_append]
    exact ho
  · have key : ∀ (u : Value) (k : List (List UInt8)), Kx w0 w base u k → Kx w0 w' base u k := fun u k hk => hk.imp id fun hk => ownsRow.beside hk h.own (by decide) hg
    by_cases hi : i < us.length
    · have hi2 : i < l.length := by rw [← h.len]; exact hi
      rw [List.getElem_append_left hi, List.getElem_append_left hi2]
      exact key _ _ (h.each i hi hi2)
    · have hil : i = us.length := by rw [List.length_append] at a; simp at a; omega
      have e1 : (us ++ [u])[i] = u := by
        rw [List.getElem_append_right (by omega)]
        simp
      have e2 : (l ++ [o])[i] = o := by
        rw [List.getElem_append_right (by rw [← h.len]; omega)]
        simp
      rw [e1, e2]
      exact key _ _ hu

set_option maxHeartbeats 400000 in
theorem seen_any (vu : Value) (us : List Nat) (o : Opr) (u : Value) (level : Int) (w : World) (hu : Us w vu us) (hU : U64s us) :
    Calls Tryd.prog 19 #[vu, opv (o.put u), .int .i64 level] w fun e w' => e = .returned (.bool (L.seen (fun a => L.leq us a level) o)) ∧ Below w.heap.size w w' := by
  have HQ := Lib.hid (fun W (hW : Below w.heap.size w W) => leq_any vu us o.level level W (hu.below hW) hU)
  obtain ⟨o0, o1, o2, o3, o4, o5, o6, o7, o8, o9, k⟩ := o
  have hb : Below w.heap.size w (w.alloc (.cells #[.int .i64 o0, .int .i64 o1, .int .i64 o2, .int .i64 o3, .string (str o4), .string (str o5), .string (str o6), .int .i64 o7, .int .i64 o8, .int .i64 o9, u] 33)) := (Below.refl _ _).alloc (Nat.le_refl _) _
  have HBX := Lib.hid hb
  clear hb hu
  simp only [Op11.put, L.seen] at HQ ⊢
  generalize L.leq us o1 level = c at *
  by_cases h15 : o0 = 16
  · have d0 : (o0 == 16) = true := by simp [h15]
    have d0' : decide (o0 = 16) = true := by simp [h15]
    rw [d0', Bool.true_or]
    clear d0' HQ
    subst h15
    go_enter Tryd.func19, Tryd.ntmps19
    go_wp2_with fail
    go_ret
    exact ⟨rfl, HBX.out⟩
  · have d0 : (o0 == 16) = false := by simp [h15]
    have d0' : decide (o0 = 16) = false := by simp [h15]
    rw [d0', Bool.false_or]
    clear h15 d0'
    go_enter Tryd.func19, Tryd.ntmps19
    go_wp2_with fail
    refine (HQ.out _ HBX.out).mono ?_
    rintro e w' ⟨rfl, rfl⟩
    go_wp2_with fail
    go_ret
    exact ⟨rfl, HBX.out⟩

set_option maxHeartbeats 400000 in
theorem refSeen_any (vu : Value) (us : List Nat) (o : Opr) (u : Value) (level : Int) (w : World) (hu : Us w vu us) (hU : U64s us) :
    Calls Tryd.prog 10 #[vu, opv (o.put u), .int .i64 level] w fun e w' => e = .returned (.bool (L.seen (fun a => L.leq us a level) o)) ∧ Below w.heap.size w w' := by
  have HQ := Lib.hid (fun W (hW : Below w.heap.size w W) => refLeq_any vu us o.level level W (hu.below hW) hU)
  obtain ⟨o0, o1, o2, o3, o4, o5, o6, o7, o8, o9, k⟩ := o
  have hb : Below w.heap.size w (w.alloc (.cells #[.int .i64 o0, .int .i64 o1, .int .i64 o2, .int .i64 o3, .string (str o4), .string (str o5), .string (str o6), .int .i64 o7, .int .i64 o8, .int .i64 o9, u] 33)) := (Below.refl _ _).alloc (Nat.le_refl _) _
  have HBX := Lib.hid hb
  clear hb hu
  simp only [Op11.put, L.seen] at HQ ⊢
  generalize L.leq us o1 level = c at *
  by_cases h15 : o0 = 16
  · have d0 : (o0 == 16) = true := by simp [h15]
    have d0' : decide (o0 = 16) = true := by simp [h15]
    rw [d0', Bool.true_or]
    clear d0' HQ
    subst h15
    go_enter Tryd.func10, Tryd.ntmps10
    go_wp2_with fail
    go_ret
    exact ⟨rfl, HBX.out⟩
  · have d0 : (o0 == 16) = false := by simp [h15]
    have d0' : decide (o0 = 16) = false := by simp [h15]
    rw [d0', Bool.false_or]
    clear h15 d0'
    go_enter Tryd.func10, Tryd.ntmps10
    go_wp2_with fail
    refine (HQ.out _ HBX.out).mono ?_
    rintro e w' ⟨rfl, rfl⟩
    go_wp2_with fail
    go_ret
    exact ⟨rfl, HBX.out⟩
end Go.Proofs.YtmapmeacjpoaoaaDoor
