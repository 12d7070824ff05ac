/- Drawn regions in phases: an operation that every loud one waits for, need not yield the same after a loud one. No program. -/
import Derived.Test.YtljpfocmnppjgaaDoorMixTwo
import Derived.StillTail
namespace Go.Proofs.YtljpfocmnppjgaaDoor.Two.Ph
open Go Go.RowKit

section
variable {P : Program} {ops : Array Oper} {md : Region.Mode} {S R T : World → World → Prop} {L : List Nat}

theorem eq_grow : Grow (fun w w' : World => w = w') := ⟨fun _ => rfl, fun _ _ _ h k => h.trans k⟩
theorem any_grow : Grow (fun _ _ : World => True) := ⟨fun _ => trivial, fun _ _ _ _ _ => trivial⟩

/-- What one operation may do. -/
def rel (L : List Nat) (S R : World → World → Prop) (i : Nat) : World → World → Prop := fun a b => if L.contains i then R a b else S a b
theorem rel_grow (gs : Grow S) (gr : Grow R) (i : Nat) : Grow (rel L S R i) := by
  unfold rel
  by_cases h : L.contains i = true
  · simp only [h, if_true]; exact gr
  · simp only [h]; exact gs
theorem rel_late {i : Nat} (h : L.contains i = true) : rel L S R i = R := by unfold rel; simp only [h, if_true]
theorem rel_soon {i : Nat} (h : L.contains i = false) : rel L S R i = S := by unfold rel; simp only [h, Bool.false_eq_true, if_false]

/-- What is listed, its forerunners are listed. -/
structure Closed (md : Region.Mode) (ops : Array Oper) (listed : Array Bool) : Prop where
  size : listed.size = ops.size
  closed : ∀ j oj, ops[j]? = some oj → listed.getD j false = true → ∀ e ∈ oj.after, Region.binds md e = true → listed.getD e.on false = true
theorem Closed.set {i : Nat} {listed : Array Bool} (inv : Closed md ops listed) (hi : i ∈ Region.ready md ops listed) : Closed md ops (listed.setIfInBounds i true) := by
  obtain ⟨_, oi, hoi, hall⟩ := mem_ready.1 hi
  refine ⟨by simp [inv.size], fun j oj hj hl e he hb => ?_⟩
  by_cases hij : i = j
  · subst hij
    have : oj = oi := Option.some.inj (hj.symm.trans hoi)
    subst this
    exact getD_set_true (hall e he hb)
  · rw [getD_set_ne false hij] at hl
    exact getD_set_true (inv.closed j oj hj hl e he hb)

/-- t comes after i. -/
def reachB (md : Region.Mode) (ops : Array Oper) : Nat → Nat → Nat → Bool
  | 0, t, i => Region.waitsFor md ops t i
  | f + 1, t, i => Region.waitsFor md ops t i || (List.range ops.size).any fun d => Region.waitsFor md ops t d && reachB md ops f d i
theorem listed_of_reach {listed : Array Bool} (inv : Closed md ops listed) {i : Nat} : ∀ (f t : Nat), listed.getD t false = true → reachB md ops f t i = true → listed.getD i false = true := by
  have one : ∀ t d, listed.getD t false = true → Region.waitsFor md ops t d = true → listed.getD d false = true := fun t d ht hw => by
    obtain ⟨ot, hot, e, he, hb, hon⟩ := Region.waitsFor_spec hw
    have := inv.closed t ot hot ht e he hb
    rwa [hon] at this
  intro f
  induction f with
  | zero => exact fun t ht h => one t i ht h
  | succ f ih =>
    intro t ht h
    simp only [reachB, Bool.or_eq_true] at h
    rcases h with h | h
    · exact one t i ht h
    · obtain ⟨d, -, hd⟩ := List.any_eq_true.1 h
      simp only [Bool.and_eq_true] at hd
      exact ih d (one t d ht hd.1) hd.2
theorem ready_reach {listed : Array Bool} (inv : Closed md ops listed) {i t : Nat} (hr : t ∈ Region.ready md ops listed) {f : Nat} (h : reachB md ops f t i = true) : listed.getD i false = true := by
  obtain ⟨_, ot, hot, hall⟩ := mem_ready.1 hr
  have one : ∀ d, Region.waitsFor md ops t d = true → listed.getD d false = true := fun d hw => by
    obtain ⟨ot', hot', e, he, hb, hon⟩ := Region.waitsFor_spec hw
    have : ot' = ot := Option.some.inj (hot'.symm.trans hot)
    subst this
    have := hall e he hb
    rwa [hon] at this
  cases f with
  | zero => exact one i h
  | succ f =>
    simp only [reachB, Bool.or_eq_true] at h
    rcases h with h | h
    · exact one i h
    · obtain ⟨d, -, hd⟩ := List.any_eq_true.1 h
      simp only [Bool.and_eq_true] at hd
      exact listed_of_reach inv f d (one d hd.1) hd.2

def wpAnyP (L : List Nat) (S R : World → World → Prop) (P : Program) (md : Region.Mode) (ops : Array Oper) (Q : Act → World → Prop) : Nat → Array Bool → Act → World → Prop
  | 0, listed, a, w => Region.ready md ops listed = [] ∧ ∀ w', S w w' → Q a w'
  | fuel + 1, listed, a, w =>
    (Region.ready md ops listed = [] → ∀ w', S w w' → Q a w') ∧
    ∀ i ∈ Region.ready md ops listed, ∀ w1, S w w1 → hOp (rel L S R i) P ops i (wpAnyP L S R P md ops Q fuel (listed.setIfInBounds i true)) a w1

theorem wpAnyP_later (gs : Grow S) {Q : Act → World → Prop} {fuel : Nat} {listed : Array Bool} {a : Act} {w w' : World} (hb : S w w') (h : wpAnyP L S R P md ops Q fuel listed a w) : wpAnyP L S R P md ops Q fuel listed a w' := by
  cases fuel with
  | zero => exact ⟨h.1, fun w'' h'' => h.2 w'' (gs.trans _ _ _ hb h'')⟩
  | succ fuel => exact ⟨fun h0 w'' h'' => h.1 h0 w'' (gs.trans _ _ _ hb h''), fun i hi w1 h1 => h.2 i hi w1 (gs.trans _ _ _ hb h1)⟩

theorem wpAny_of_P (gs : Grow S) {Q : Act → World → Prop} {Q' : Exit → Act → World → Prop} (hQ : ∀ a w, Q a w → Q' .normal a w) : ∀ (fuel : Nat) (listed : Array Bool) (a : Act) (w : World),
    wpAnyP L S R P md ops Q fuel listed a w → wpAny P md ops Q' fuel listed a w
  | 0, _, _, _, h => ⟨h.1, hQ _ _ (h.2 _ (gs.refl _))⟩
  | fuel + 1, _, _, _, h => ⟨fun h0 => hQ _ _ (h.1 h0 _ (gs.refl _)), fun i hi => wpOp_of_hOp (fun a' w' => wpAny_of_P gs hQ fuel _ a' w') (h.2 i hi _ (gs.refl _))⟩

theorem yields_hOp {i : Nat} {o : Oper} {v : Value} {a : Act} {W : World} (gs : Grow S) (sub : ∀ a b, S a b → T a b) (hi : ops[i]? = some o) (hy : YieldsE S T P ops W o v a) {K : Act → World → Prop} {w1 : World} (hb : S W w1)
    (h : ∀ w', S W w' → K (a.put o.dst v) w') : hOp S P ops i K a w1 := by
  unfold Go.Proofs.YtljpfocmnppjgaaDoor.Two.hOp
  simp only [hi]
  rcases hy with ⟨hw, hv⟩ | ⟨hw, rfl⟩
  · simp only [hw, if_true]
    have h3 := hv ⟨w1, sub _ _ hb⟩
    unfold hOper
    dsimp only at h3
    generalize (execOp a.eval o).run P w1 = r at *
    cases r with
    | ok n w' =>
      cases n <;> simp only [yieldsV] at h3 <;> simp only [yieldsTo] <;> first
        | exact h3.elim
        | (obtain ⟨h4, rfl⟩ := h3; exact ⟨h4, h _ (gs.trans _ _ _ hb h4)⟩)
        | exact ⟨h3.1, h3.2.mono fun e w'' ⟨h5, h6⟩ => ⟨v, h5, h6, h _ (gs.trans _ _ _ hb (gs.trans _ _ _ h3.1 h6))⟩⟩
    | halt x w' => exact h3.elim
  · simp only [hw, Bool.false_eq_true, if_false]
    exact h _ hb

theorem hOp_put {J : World → World → Prop} (gj : Grow J) {j : Nat} {oi oj : Oper} {v : Value} {W : World} (hj : ops[j]? = some oj) (hap : oi.apart ops oj = true)
    (hsi : ∀ cs b, oi.op ≠ .select cs b) (hsj : ∀ cs b, oj.op ≠ .select cs b) {K : Act → World → Prop} {a : Act} {w : World}
    (hy : YieldsE S T P ops W oi v a) (h : hOp J P ops j K (a.put oi.dst v) w) :
    hOp J P ops j (fun a' w' => YieldsE S T P ops W oi v a' ∧ K (a'.put oi.dst v) w') a w := by
  obtain ⟨h1, h2, h3⟩ := Oper.apart_spec hap
  have keep : ∀ (a : Act), YieldsE S T P ops W oi v a → ∀ u, YieldsE S T P ops W oi v (a.put oj.dst u) := fun a hy u =>
    hy.of_same (execOp_put oi hsi a oj.dst u h3) (wanted_put oi a oj.dst u h3)
  unfold hOp at *
  simp only [hj] at *
  rw [wanted_put oj a oi.dst v h1] at h
  split
  · rename_i hw
    simp only [hw, if_true] at h
    unfold hOper at *
    rw [execOp_put oj hsj a oi.dst v h1] at h
    refine yieldsTo_mono gj (fun u w' _ hk => ⟨keep a hy u, ?_⟩) h
    rw [← Act.put_comm a v u h2]
    exact hk
  · rename_i hw
    simp only [hw] at h
    exact ⟨keep a hy _, by rw [← Act.put_comm a v undef h2]; exact h⟩

theorem wpAnyP_first (gs : Grow S) (gr : Grow R) (gt : Grow T) (sub : ∀ a b, S a b → T a b) {Q : Act → World → Prop} {i : Nat} {oi : Oper} {v : Value} (hi : ops[i]? = some oi) (hL : L.contains i = false)
    {f : Nat} (hT : (∀ t, L.contains t = true → reachB md ops f t i = true) ∨ (∀ a b, R a b → T a b))
    (hsel : ∀ (j : Nat) (o : Oper) cs b, ops[j]? = some o → o.op ≠ .select cs b) :
    ∀ (fuel : Nat) (listed : Array Bool) (a : Act) (W : World), Closed md ops listed →
      (∀ j oj, ops[j]? = some oj → j ≠ i → listed.getD j true = false → (∀ e ∈ oj.after, Region.binds md e = true → e.on ≠ i) → oi.apart ops oj = true) →
      i ∈ Region.ready md ops listed → YieldsE S T P ops W oi v a →
      wpAnyP L S R P md ops Q fuel (listed.setIfInBounds i true) (a.put oi.dst v) W → wpAnyP L S R P md ops Q (fuel + 1) listed a W := by
  intro fuel
  induction fuel with
  | zero =>
    intro listed a W _ _ hr hy H
    refine ⟨fun h => (by rw [h] at hr; cases hr), fun j hj w1 hb => ?_⟩
    by_cases hji : j = i
    · subst hji
      rw [rel_soon hL]
      exact yields_hOp gs sub hi hy hb fun w' hb' => wpAnyP_later gs hb' H
    · have := ready_mono hj hji
      rw [H.1] at this
      cases this
  | succ fuel ih =>
    intro listed a W inv hfree hr hy H
    refine ⟨fun h => (by rw [h] at hr; cases hr), fun j hj w1 hb => ?_⟩
    by_cases hji : j = i
    · subst hji
      rw [rel_soon hL]
      exact yields_hOp gs sub hi hy hb fun w' hb' => wpAnyP_later gs hb' H
    · have h1 := H.2 j (ready_mono hj hji) w1 hb
      obtain ⟨hjun, oj, hoj, hall⟩ := mem_ready.1 hj
      have hun : listed.getD i false = false := getD_both (mem_ready.1 hr).1
      have hjT : ∀ a b, rel L S R j a b → T a b := by
        by_cases hlj : L.contains j = true
        · rw [rel_late hlj]
          rcases hT with hT | hT
          · have := ready_reach inv hj (hT j hlj)
            rw [hun] at this
            cases this
          · exact hT
        · rw [rel_soon (by simpa using hlj)]
          exact sub
      have hnot : ∀ e ∈ oj.after, Region.binds md e = true → e.on ≠ i := fun e he hbd heq => by
        have h1 := hall e he hbd
        rw [heq, hun] at h1
        cases h1
      have h2 := hOp_put (rel_grow gs gr j) hoj (hfree j oj hoj hji hjun hnot) (fun cs b => hsel i oi cs b hi) (fun cs b => hsel j oj cs b hoj) hy h1
      have hfree' : ∀ k ok, ops[k]? = some ok → k ≠ i → (listed.setIfInBounds j true).getD k true = false →
          (∀ e ∈ ok.after, Region.binds md e = true → e.on ≠ i) → oi.apart ops ok = true := fun k ok hk hki hun hno => by
        refine hfree k ok hk hki ?_ hno
        by_cases hjk : j = k
        · subst hjk; exact hjun
        · rw [getD_set_ne true hjk] at hun; exact hun
      refine hOp_mono (rel_grow gs gr j) (fun a' w' hb' h3 => ih (listed.setIfInBounds j true) a' w' (inv.set hj) hfree' (ready_mono hr (Ne.symm hji)) (h3.1.later gt (gt.trans _ _ _ (sub _ _ hb) (hjT _ _ hb'))) ?_) h2
      rw [Array.setIfInBounds_comm _ _ hji]
      exact h3.2

/-- The walk in one order; 0: soft in every later world; 1: loud; 2: soft, ahead of every loud one. -/
def mix (S R : World → World → Prop) (P : Program) (ops : Array Oper) (Q : Act → World → Prop) : List (Nat × Nat) → Act → World → Prop
  | [], a, w => ∀ w', S w w' → Q a w'
  | (i, 0) :: rest, a, w => ∃ o, ops[i]? = some o ∧ if Region.wanted o (yielded ops a.tmps) then soft S R P o a w (fun a' => mix S R P ops Q rest a' w) else mix S R P ops Q rest (a.put o.dst undef) w
  | (i, 1) :: rest, a, w => ∃ o, ops[i]? = some o ∧ if Region.wanted o (yielded ops a.tmps) then ∀ x : LaterR S w, hOper R P o a x.1 (mix S R P ops Q rest) else mix S R P ops Q rest (a.put o.dst undef) w
  | (i, _ + 2) :: rest, a, w => ∃ o, ops[i]? = some o ∧ if Region.wanted o (yielded ops a.tmps) then soft S S P o a w (fun a' => mix S R P ops Q rest a' w) else mix S R P ops Q rest (a.put o.dst undef) w

def mixOk (L : List Nat) (md : Region.Mode) (ops : Array Oper) : List (Nat × Nat) → Array Bool → Bool
  | [], listed => (Region.ready md ops listed).isEmpty
  | (i, 0) :: rest, listed => (Region.ready md ops listed).contains i && !L.contains i && Region.free md ops listed i && mixOk L md ops rest (listed.setIfInBounds i true)
  | (i, 1) :: rest, listed => (Region.ready md ops listed == [i]) && L.contains i && mixOk L md ops rest (listed.setIfInBounds i true)
  | (i, _ + 2) :: rest, listed => (Region.ready md ops listed).contains i && !L.contains i && (L.all fun t => reachB md ops 2 t i) && Region.free md ops listed i && mixOk L md ops rest (listed.setIfInBounds i true)
def mixB (L : List Nat) (ops : Array Oper) (order : List (Nat × Nat)) : Bool := Region.noSelect ops && order.length == ops.size && mixOk L .any ops order (Array.replicate ops.size false)

theorem mix_sound (gs : Grow S) (gr : Grow R) (sub : ∀ a b, S a b → R a b) {Q : Act → World → Prop} (hs : Region.noSelect ops = true) : ∀ (l : List (Nat × Nat)) (listed : Array Bool) (a : Act) (w : World), Closed md ops listed →
    mixOk L md ops l listed = true → mix S R P ops Q l a w → wpAnyP L S R P md ops Q l.length listed a w
  | [], _, _, _, _, hB, h => ⟨by simpa [mixOk] using hB, h⟩
  | (i, 0) :: l, listed, a, w, inv, hB, h => by
    simp only [mixOk, Bool.and_eq_true, Bool.not_eq_true'] at hB
    obtain ⟨⟨⟨hr, hL⟩, hf⟩, hB'⟩ := hB
    simp only [mix] at h
    obtain ⟨o, ho, h⟩ := h
    have hy : ∃ v, YieldsE S R P ops w o v a ∧ mix S R P ops Q l (a.put o.dst v) w := by
      split at h
      · rename_i hw
        obtain ⟨v, h1, h2⟩ := h
        exact ⟨v, .inl ⟨hw, h1⟩, h2⟩
      · rename_i hw
        exact ⟨undef, .inr ⟨by simpa using hw, rfl⟩, h⟩
    obtain ⟨v, hy, hK⟩ := hy
    have hr' : i ∈ Region.ready md ops listed := by simpa using hr
    exact wpAnyP_first gs gr gr sub ho hL (f := 0) (.inr fun _ _ h => h) (Region.noSelect_spec hs) l.length listed a w inv (Region.free_spec ho hf) hr' hy (mix_sound gs gr sub hs l _ _ _ (inv.set hr') hB' hK)
  | (i, 1) :: l, listed, a, w, inv, hB, h => by
    simp only [mixOk, Bool.and_eq_true, beq_iff_eq] at hB
    obtain ⟨⟨hr, hL⟩, hB'⟩ := hB
    simp only [mix] at h
    obtain ⟨o, ho, h⟩ := h
    refine ⟨fun h0 => (by rw [hr] at h0; cases h0), fun j hj w1 hb => ?_⟩
    have hi : i ∈ Region.ready md ops listed := by rw [hr]; exact List.mem_singleton.2 rfl
    rw [hr, List.mem_singleton] at hj
    subst hj
    rw [rel_late hL]
    unfold hOp
    simp only [ho]
    split at h
    · rename_i hw
      simp only [hw, if_true]
      exact yieldsTo_mono gr (fun v w' _ hk => mix_sound gs gr sub hs l _ _ _ (inv.set hi) hB' hk) (h ⟨w1, hb⟩)
    · rename_i hw
      simp only [hw]
      exact wpAnyP_later gs hb (mix_sound gs gr sub hs l _ _ _ (inv.set hi) hB' h)
  | (i, _ + 2) :: l, listed, a, w, inv, hB, h => by
    simp only [mixOk, Bool.and_eq_true, Bool.not_eq_true'] at hB
    obtain ⟨⟨⟨⟨hr, hL⟩, hall⟩, hf⟩, hB'⟩ := hB
    simp only [mix] at h
    obtain ⟨o, ho, h⟩ := h
    have hy : ∃ v, YieldsE S S P ops w o v a ∧ mix S R P ops Q l (a.put o.dst v) w := by
      split at h
      · rename_i hw
        obtain ⟨v, h1, h2⟩ := h
        exact ⟨v, .inl ⟨hw, h1⟩, h2⟩
      · rename_i hw
        exact ⟨undef, .inr ⟨by simpa using hw, rfl⟩, h⟩
    obtain ⟨v, hy, hK⟩ := hy
    have hr' : i ∈ Region.ready md ops listed := by simpa using hr
    exact wpAnyP_first gs gr gs (fun _ _ h => h) ho hL (f := 2) (.inl fun t ht => List.all_eq_true.1 hall t (by simpa using ht)) (Region.noSelect_spec hs) l.length listed a w inv (Region.free_spec ho hf) hr' hy (mix_sound gs gr sub hs l _ _ _ (inv.set hr') hB' hK)

theorem wp_region_mix3 (gs : Grow S) (gr : Grow R) (sub : ∀ a b, S a b → R a b) {id : Nat} {Q : Exit → Act → World → Prop} {a : Act} {w : World} {l : List Oper} (L : List Nat) (order : List (Nat × Nat)) (hm : P.follows .mixedOrders = true) (hB : mixB L l.toArray order = true)
    (h : mix S R P l.toArray (fun a' w' => Q .normal a' w') order a w.drew) : (Code.region id l.toArray true).wp P Q a w := by
  simp only [mixB, Bool.and_eq_true, beq_iff_eq] at hB
  obtain ⟨⟨h1, h2⟩, h3⟩ := hB
  refine wp_region_any hm (wpAny_of_P (L := L) (R := R) gs (Q := fun a' w' => Q .normal a' w') (fun _ _ h => h) _ _ _ _ ?_)
  rw [← h2]
  exact mix_sound gs gr sub h1 order _ a _ ⟨by simpa using h2, fun j oj _ hl => (by rw [getD_replicate_false] at hl; cases hl)⟩ (by rw [h2]; exact h3) h

theorem mix3_soft {Q : Act → World → Prop} {l : List Oper} {i : Nat} {rest : List (Nat × Nat)} {o : Oper} {a : Act} {W : World} (ho : l[i]? = some o)
    (h : ∀ K : Act → Prop, (∀ a', mix S R P l.toArray Q rest a' W → K a') → if Region.wanted o (yielded l.toArray a.tmps) then soft S R P o a W K else K (a.put o.dst undef)) :
    mix S R P l.toArray Q ((i, 0) :: rest) a W := by
  simp only [mix]
  exact ⟨o, by simpa using ho, h _ fun _ h => h⟩
theorem mix3_soon {Q : Act → World → Prop} {l : List Oper} {i : Nat} {rest : List (Nat × Nat)} {o : Oper} {a : Act} {W : World} (ho : l[i]? = some o)
    (h : ∀ K : Act → Prop, (∀ a', mix S R P l.toArray Q rest a' W → K a') → if Region.wanted o (yielded l.toArray a.tmps) then soft S S P o a W K else K (a.put o.dst undef)) :
    mix S R P l.toArray Q ((i, 2) :: rest) a W := by
  simp only [mix]
  exact ⟨o, by simpa using ho, h _ fun _ h => h⟩
theorem mix3_loud {Q : Act → World → Prop} {l : List Oper} {i : Nat} {rest : List (Nat × Nat)} {o : Oper} {a : Act} {W : World} (ho : l[i]? = some o)
    (h : ∀ K : Act → World → Prop, (∀ a' w', mix S R P l.toArray Q rest a' w' → K a' w') → if Region.wanted o (yielded l.toArray a.tmps) then ∀ x : LaterR S W, hOper R P o a x.1 K else K (a.put o.dst undef) W) :
    mix S R P l.toArray Q ((i, 1) :: rest) a W := by
  simp only [mix]
  exact ⟨o, by simpa using ho, h _ fun _ _ h => h⟩
theorem mix3_done {Q : Act → World → Prop} {a : Act} {W : World} (h : ∀ w', S W w' → Q a w') : mix S R P ops Q [] a W := by
  simp only [mix]
  exact h
/-- The world itself, and any. -/
instance selfSome (W : World) : Nonempty (LaterR (fun w w' : World => w = w') W) := ⟨⟨W, rfl⟩⟩
instance anySome (W : World) : Nonempty (LaterR (fun _ _ : World => True) W) := ⟨⟨W, trivial⟩⟩
@[go_sem] theorem self_eq {W : World} (x : LaterR (fun w w' : World => w = w') W) : x.1 = W := x.2.symm
end
end Go.Proofs.YtljpfocmnppjgaaDoor.Two.Ph
