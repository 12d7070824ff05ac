/- A statement whose order Go leaves open, by two relations: S, what may happen between two operations (the soft ones do no more); R, which the loud ones keep, and in which the soft ones' facts hold. One walk in one order serves every order. (XMix is the case S = R.) No program. -/
import Derived.Test.YtljpfocmnppjgaaDoorMix
import Derived.Laws.AppendOwn
namespace Go.Proofs.YtljpfocmnppjgaaDoor.Two
open Go Go.RowKit

/-- The same, but for what has been drawn. -/
structure Drew (w w' : World) : Prop where
  heap : w'.heap = w.heap
  os : w'.os = w.os
  tape : w'.tape = w.tape
  output : w'.output = w.output
theorem drew_grow : Grow Drew := ⟨fun _ => ⟨rfl, rfl, rfl, rfl⟩, fun _ _ _ h k => ⟨k.heap.trans h.heap, k.os.trans h.os, k.tape.trans h.tape, k.output.trans h.output⟩⟩
theorem Drew.below {w w' : World} (h : Drew w w') (B : Nat) : Below B w w' := ⟨h.os, h.tape, h.output, by rw [h.heap]; exact Nat.le_refl _, fun k _ => by rw [h.heap]⟩
theorem drew_of_eq {w w' : World} (h : w = w') : Drew w w' := h ▸ drew_grow.refl w
theorem drew_drewN (w : World) (n : Nat) : Drew w (w.drewN n) := ⟨rfl, rfl, rfl, rfl⟩
@[go_sem] theorem drew_refl_true (w : World) : Drew w w = True := eq_true (drew_grow.refl w)

section
variable {S R : World → World → Prop} {P : Program} {ops : Array Oper} {md : Region.Mode}

def hOper (R : World → World → Prop) (P : Program) (o : Oper) (a : Act) (w : World) (K : Act → World → Prop) : Prop := yieldsTo R P w (fun v w' => K (a.put o.dst v) w') ((execOp a.eval o).run P w)
def hOp (R : World → World → Prop) (P : Program) (ops : Array Oper) (i : Nat) (K : Act → World → Prop) (a : Act) (w : World) : Prop :=
  match ops[i]? with
  | none => False
  | some o => if Region.wanted o (yielded ops a.tmps) then hOper R P o a w K else K (a.put o.dst undef) w

theorem hOp_mono (gr : Grow R) {i : Nat} {a : Act} {w : World} {K K' : Act → World → Prop} (h : ∀ a w', R w w' → K a w' → K' a w') (hh : hOp R P ops i K a w) : hOp R P ops i K' a w := by
  unfold hOp at *
  split
  · rename_i ho; simp only [ho] at hh
  · rename_i o ho
    simp only [ho] at hh
    split
    · rename_i hw; simp only [hw, if_true] at hh; exact yieldsTo_mono gr (fun v w' hb => h _ _ hb) hh
    · rename_i hw; simp only [hw] at hh; exact h _ _ (gr.refl _) hh

theorem wpOp_of_hOp {i : Nat} {a : Act} {w : World} {K K' : Act → World → Prop} {Q : Exit → Act → World → Prop} (h : ∀ a w', K a w' → K' a w') (hh : hOp R P ops i K a w) : wpOp P ops Q i K' a w := by
  unfold hOp at hh
  unfold wpOp
  split
  · rename_i ho; simp only [ho] at hh
  · rename_i o ho
    simp only [ho] at hh
    split
    · rename_i hw
      simp only [hw, if_true] at hh
      refine .inl ?_
      unfold hOper at hh
      unfold Oper.wp
      generalize (execOp a.eval o).run P w = r at *
      cases r with
      | ok n w' =>
        cases n <;> simp only [yieldsTo] at hh <;> simp only [Oper.upon] <;> first
          | exact hh.elim
          | exact h _ _ hh.2
          | exact hh.2.mono fun e w'' ⟨v, h1, h2, h3⟩ => by subst h1; exact h _ _ h3
      | halt x w' => exact hh.elim
    · rename_i hw; simp only [hw] at hh; exact h _ _ hh

def wpAnyE (S R : World → World → Prop) (P : Program) (md : Region.Mode) (ops : Array Oper) (Q : Act → World → Prop) : Nat → Array Bool → Act → World → Prop
  | 0, listed, a, w => Region.ready md ops listed = [] ∧ ∀ w', S w w' → Q a w'
  | fuel + 1, listed, a, w =>
    (Region.ready md ops listed = [] → ∀ w', S w w' → Q a w') ∧
    ∀ i ∈ Region.ready md ops listed, ∀ w1, S w w1 → hOp R P ops i (wpAnyE S R P md ops Q fuel (listed.setIfInBounds i true)) a w1

theorem wpAnyE_later (gs : Grow S) {Q : Act → World → Prop} {fuel : Nat} {listed : Array Bool} {a : Act} {w w' : World} (hb : S w w') (h : wpAnyE S R P md ops Q fuel listed a w) : wpAnyE S R P md ops Q fuel listed a w' := by
  cases fuel with
  | zero => exact ⟨h.1, fun w'' h'' => h.2 w'' (gs.trans _ _ _ hb h'')⟩
  | succ fuel => exact ⟨fun h0 w'' h'' => h.1 h0 w'' (gs.trans _ _ _ hb h''), fun i hi w1 h1 => h.2 i hi w1 (gs.trans _ _ _ hb h1)⟩

theorem wpAny_of_E (gs : Grow S) {Q : Act → World → Prop} {Q' : Exit → Act → World → Prop} (hQ : ∀ a w, Q a w → Q' .normal a w) : ∀ (fuel : Nat) (listed : Array Bool) (a : Act) (w : World),
    wpAnyE S R P md ops Q fuel listed a w → wpAny P md ops Q' fuel listed a w
  | 0, _, _, _, h => ⟨h.1, hQ _ _ (h.2 _ (gs.refl _))⟩
  | fuel + 1, _, _, _, h => ⟨fun h0 => hQ _ _ (h.1 h0 _ (gs.refl _)), fun i hi => wpOp_of_hOp (fun a' w' => wpAny_of_E gs hQ fuel _ a' w') (h.2 i hi _ (gs.refl _))⟩

/-- One value, in every later world. -/
def yieldsV (S : World → World → Prop) (P : Program) (w : World) (v : Value) : Result Next → Prop
  | .ok (.value u) w' => S w w' ∧ u = v
  | .ok .skip w' => S w w' ∧ undef = v
  | .ok (.enter f args) w' => S w w' ∧ Calls P f args w' (fun e w'' => e = .returned v ∧ S w' w'')
  | _ => False
def soft (S R : World → World → Prop) (P : Program) (o : Oper) (a : Act) (W : World) (K : Act → Prop) : Prop := ∃ v, (∀ x : LaterR R W, yieldsV S P x.1 v ((execOp a.eval o).run P x.1)) ∧ K (a.put o.dst v)

def YieldsE (S R : World → World → Prop) (P : Program) (ops : Array Oper) (W : World) (o : Oper) (v : Value) (a : Act) : Prop :=
  (Region.wanted o (yielded ops a.tmps) = true ∧ ∀ x : LaterR R W, yieldsV S P x.1 v ((execOp a.eval o).run P x.1)) ∨ (Region.wanted o (yielded ops a.tmps) = false ∧ v = undef)

theorem YieldsE.later (gr : Grow R) {W W' : World} {o : Oper} {v : Value} {a : Act} (h : YieldsE S R P ops W o v a) (hb : R W W') : YieldsE S R P ops W' o v a := by
  rcases h with ⟨h1, h2⟩ | h
  · exact .inl ⟨h1, fun x => h2 ⟨x.1, gr.trans _ _ _ hb x.2⟩⟩
  · exact .inr h

theorem YieldsE.hOp {i : Nat} {o : Oper} {v : Value} {a : Act} {W : World} (gs : Grow S) (sub : ∀ a b, S a b → R a b) (hi : ops[i]? = some o) (hy : YieldsE S R P ops W o v a) {K : Act → World → Prop} {w1 : World} (hb : S W w1)
    (h : ∀ w', S W w' → K (a.put o.dst v) w') : hOp R P ops i K a w1 := by
  unfold Go.Proofs.YtljpfocmnppjgaaDoor.Two.hOp
  simp only [hi]
  rcases hy with ⟨hw, hv⟩ | ⟨hw, rfl⟩
  · simp only [hw, if_true]
    have h3 := hv ⟨w1, sub _ _ hb⟩
    unfold hOper
    dsimp only at h3
    generalize (execOp a.eval o).run P w1 = r at *
    cases r with
    | ok n w' =>
      cases n <;> simp only [yieldsV] at h3 <;> simp only [yieldsTo] <;> first
        | exact h3.elim
        | (obtain ⟨h4, rfl⟩ := h3; exact ⟨sub _ _ h4, h _ (gs.trans _ _ _ hb h4)⟩)
        | exact ⟨sub _ _ h3.1, h3.2.mono fun e w'' ⟨h5, h6⟩ => ⟨v, h5, sub _ _ h6, h _ (gs.trans _ _ _ hb (gs.trans _ _ _ h3.1 h6))⟩⟩
    | halt x w' => exact h3.elim
  · simp only [hw, Bool.false_eq_true, if_false]
    exact h _ hb

theorem YieldsE.of_same {o : Oper} {v : Value} {a a' : Act} {W : World} (hy : YieldsE S R P ops W o v a) (he : execOp a'.eval o = execOp a.eval o)
    (hw : Region.wanted o (yielded ops a'.tmps) = Region.wanted o (yielded ops a.tmps)) : YieldsE S R P ops W o v a' := by
  unfold YieldsE at *
  rw [he, hw]
  exact hy

theorem hOp_put (gr : Grow R) {j : Nat} {oi oj : Oper} {v : Value} {W : World} (hj : ops[j]? = some oj) (hap : oi.apart ops oj = true)
    (hsi : ∀ cs b, oi.op ≠ .select cs b) (hsj : ∀ cs b, oj.op ≠ .select cs b) {K : Act → World → Prop} {a : Act} {w : World}
    (hy : YieldsE S R P ops W oi v a) (h : hOp R P ops j K (a.put oi.dst v) w) :
    hOp R P ops j (fun a' w' => YieldsE S R P ops W oi v a' ∧ K (a'.put oi.dst v) w') a w := by
  obtain ⟨h1, h2, h3⟩ := Oper.apart_spec hap
  have keep : ∀ (a : Act), YieldsE S R P ops W oi v a → ∀ u, YieldsE S R P ops W oi v (a.put oj.dst u) := fun a hy u =>
    hy.of_same (execOp_put oi hsi a oj.dst u h3) (wanted_put oi a oj.dst u h3)
  unfold hOp at *
  simp only [hj] at *
  rw [wanted_put oj a oi.dst v h1] at h
  split
  · rename_i hw
    simp only [hw, if_true] at h
    unfold hOper at *
    rw [execOp_put oj hsj a oi.dst v h1] at h
    refine yieldsTo_mono gr (fun u w' _ hk => ⟨keep a hy u, ?_⟩) h
    rw [← Act.put_comm a v u h2]
    exact hk
  · rename_i hw
    simp only [hw] at h
    exact ⟨keep a hy _, by rw [← Act.put_comm a v undef h2]; exact h⟩

theorem wpAnyE_first (gs : Grow S) (gr : Grow R) (sub : ∀ a b, S a b → R a b) {Q : Act → World → Prop} {i : Nat} {oi : Oper} {v : Value} (hi : ops[i]? = some oi) (hsel : ∀ (j : Nat) (o : Oper) cs b, ops[j]? = some o → o.op ≠ .select cs b) :
    ∀ (fuel : Nat) (listed : Array Bool) (a : Act) (W : World),
      (∀ j oj, ops[j]? = some oj → j ≠ i → listed.getD j true = false → (∀ e ∈ oj.after, Region.binds md e = true → e.on ≠ i) → oi.apart ops oj = true) →
      i ∈ Region.ready md ops listed → YieldsE S R P ops W oi v a →
      wpAnyE S R P md ops Q fuel (listed.setIfInBounds i true) (a.put oi.dst v) W → wpAnyE S R P md ops Q (fuel + 1) listed a W := by
  intro fuel
  induction fuel with
  | zero =>
    intro listed a W _ hr hy H
    refine ⟨fun h => (by rw [h] at hr; cases hr), fun j hj w1 hb => ?_⟩
    by_cases hji : j = i
    · subst hji; exact hy.hOp gs sub hi hb fun w' hb' => wpAnyE_later gs hb' H
    · have := ready_mono hj hji
      rw [H.1] at this
      cases this
  | succ fuel ih =>
    intro listed a W hfree hr hy H
    refine ⟨fun h => (by rw [h] at hr; cases hr), fun j hj w1 hb => ?_⟩
    by_cases hji : j = i
    · subst hji; exact hy.hOp gs sub hi hb fun w' hb' => wpAnyE_later gs hb' H
    · have h1 := H.2 j (ready_mono hj hji) w1 hb
      obtain ⟨hjun, oj, hoj, hall⟩ := mem_ready.1 hj
      have hnot : ∀ e ∈ oj.after, Region.binds md e = true → e.on ≠ i := fun e he hbd heq => by
        have h1 := hall e he hbd
        have h0 := (mem_ready.1 hr).1
        rw [heq] at h1
        rcases Nat.lt_or_ge i listed.size with h' | h'
        · simp [h'] at h0 h1; rw [h0] at h1; cases h1
        · simp [Array.getElem?_eq_none h'] at h1
      have h2 := hOp_put gr hoj (hfree j oj hoj hji hjun hnot) (fun cs b => hsel i oi cs b hi) (fun cs b => hsel j oj cs b hoj) hy h1
      have hfree' : ∀ k ok, ops[k]? = some ok → k ≠ i → (listed.setIfInBounds j true).getD k true = false →
          (∀ e ∈ ok.after, Region.binds md e = true → e.on ≠ i) → oi.apart ops ok = true := fun k ok hk hki hun hno => by
        refine hfree k ok hk hki ?_ hno
        by_cases hjk : j = k
        · subst hjk; exact hjun
        · rw [getD_set_ne true hjk] at hun; exact hun
      refine hOp_mono gr (fun a' w' hb' h3 => ih (listed.setIfInBounds j true) a' w' hfree' (ready_mono hr (Ne.symm hji)) (h3.1.later gr (gr.trans _ _ _ (sub _ _ hb) hb')) ?_) h2
      rw [Array.setIfInBounds_comm _ _ hji]
      exact h3.2

/-- The walk in one order; 'true': a loud operation. -/
def mix (S R : World → World → Prop) (P : Program) (ops : Array Oper) (Q : Act → World → Prop) : List (Nat × Bool) → Act → World → Prop
  | [], a, w => ∀ w', S w w' → Q a w'
  | (i, false) :: rest, a, w => ∃ o, ops[i]? = some o ∧ if Region.wanted o (yielded ops a.tmps) then soft S R P o a w (fun a' => mix S R P ops Q rest a' w) else mix S R P ops Q rest (a.put o.dst undef) w
  | (i, true) :: rest, a, w => ∃ o, ops[i]? = some o ∧ if Region.wanted o (yielded ops a.tmps) then ∀ x : LaterR S w, hOper R P o a x.1 (mix S R P ops Q rest) else mix S R P ops Q rest (a.put o.dst undef) w

def mixOk (md : Region.Mode) (ops : Array Oper) : List (Nat × Bool) → Array Bool → Bool
  | [], listed => (Region.ready md ops listed).isEmpty
  | (i, false) :: rest, listed => (Region.ready md ops listed).contains i && Region.free md ops listed i && mixOk md ops rest (listed.setIfInBounds i true)
  | (i, true) :: rest, listed => (Region.ready md ops listed == [i]) && mixOk md ops rest (listed.setIfInBounds i true)
def mixB (ops : Array Oper) (order : List (Nat × Bool)) : Bool := Region.noSelect ops && order.length == ops.size && mixOk .any ops order (Array.replicate ops.size false)

theorem mix_sound (gs : Grow S) (gr : Grow R) (sub : ∀ a b, S a b → R a b) {Q : Act → World → Prop} (hs : Region.noSelect ops = true) : ∀ (l : List (Nat × Bool)) (listed : Array Bool) (a : Act) (w : World),
    mixOk md ops l listed = true → mix S R P ops Q l a w → wpAnyE S R P md ops Q l.length listed a w
  | [], _, _, _, hB, h => ⟨by simpa [mixOk] using hB, h⟩
  | (i, false) :: l, listed, a, w, hB, h => by
    simp only [mixOk, Bool.and_eq_true] at hB
    obtain ⟨⟨hr, hf⟩, hB'⟩ := hB
    obtain ⟨o, ho, h⟩ := h
    have hy : ∃ v, YieldsE S R P ops w o v a ∧ mix S R P ops Q l (a.put o.dst v) w := by
      split at h
      · rename_i hw
        obtain ⟨v, h1, h2⟩ := h
        exact ⟨v, .inl ⟨hw, h1⟩, h2⟩
      · rename_i hw
        exact ⟨undef, .inr ⟨by simpa using hw, rfl⟩, h⟩
    obtain ⟨v, hy, hK⟩ := hy
    exact wpAnyE_first gs gr sub ho (Region.noSelect_spec hs) l.length listed a w (Region.free_spec ho hf) (by simpa using hr) hy (mix_sound gs gr sub hs l _ _ _ hB' hK)
  | (i, true) :: l, listed, a, w, hB, h => by
    simp only [mixOk, Bool.and_eq_true, beq_iff_eq] at hB
    obtain ⟨hr, hB'⟩ := hB
    obtain ⟨o, ho, h⟩ := h
    refine ⟨fun h0 => (by rw [hr] at h0; cases h0), fun j hj w1 hb => ?_⟩
    rw [hr, List.mem_singleton] at hj
    subst hj
    unfold hOp
    simp only [ho]
    split at h
    · rename_i hw
      simp only [hw, if_true]
      exact yieldsTo_mono gr (fun v w' _ hk => mix_sound gs gr sub hs l _ _ _ hB' hk) (h ⟨w1, hb⟩)
    · rename_i hw
      simp only [hw]
      exact wpAnyE_later gs hb (mix_sound gs gr sub hs l _ _ _ hB' h)

theorem wp_region_mix2 (gs : Grow S) (gr : Grow R) (sub : ∀ a b, S a b → R a b) {id : Nat} {Q : Exit → Act → World → Prop} {a : Act} {w : World} {l : List Oper} (order : List (Nat × Bool)) (hm : P.follows .mixedOrders = true) (hB : mixB l.toArray order = true)
    (h : mix S R P l.toArray (fun a' w' => Q .normal a' w') order a w.drew) : (Code.region id l.toArray true).wp P Q a w := by
  simp only [mixB, Bool.and_eq_true, beq_iff_eq] at hB
  obtain ⟨⟨h1, h2⟩, h3⟩ := hB
  refine wp_region_any hm (wpAny_of_E (R := R) gs (Q := fun a' w' => Q .normal a' w') (fun _ _ h => h) _ _ _ _ ?_)
  rw [← h2]
  exact mix_sound gs gr sub h1 order _ a _ (by rw [h2]; exact h3) h

theorem mix2_soft {Q : Act → World → Prop} {l : List Oper} {i : Nat} {rest : List (Nat × Bool)} {o : Oper} {a : Act} {W : World} (ho : l[i]? = some o)
    (h : ∀ K : Act → Prop, (∀ a', mix S R P l.toArray Q rest a' W → K a') → if Region.wanted o (yielded l.toArray a.tmps) then soft S R P o a W K else K (a.put o.dst undef)) :
    mix S R P l.toArray Q ((i, false) :: rest) a W := ⟨o, by simpa using ho, h _ fun _ h => h⟩
theorem mix2_loud {Q : Act → World → Prop} {l : List Oper} {i : Nat} {rest : List (Nat × Bool)} {o : Oper} {a : Act} {W : World} (ho : l[i]? = some o)
    (h : ∀ K : Act → World → Prop, (∀ a' w', mix S R P l.toArray Q rest a' w' → K a' w') → if Region.wanted o (yielded l.toArray a.tmps) then ∀ x : LaterR S W, hOper R P o a x.1 K else K (a.put o.dst undef) W) :
    mix S R P l.toArray Q ((i, true) :: rest) a W := ⟨o, by simpa using ho, h _ fun _ _ h => h⟩
theorem mix2_loud_plain {Q : Act → World → Prop} {l : List Oper} {i : Nat} {rest : List (Nat × Bool)} {o : Oper} {a : Act} {W : World} (ho : l[i]? = some o) (hg : o.guard = none)
    (h : ∀ K : Act → World → Prop, (∀ a' w', mix S R P l.toArray Q rest a' w' → K a' w') → ∀ x : LaterR S W, hOper R P o a x.1 K) :
    mix S R P l.toArray Q ((i, true) :: rest) a W := mix2_loud ho fun K hK => by
  rw [if_pos (by simp [Region.wanted, hg])]
  exact h K hK
theorem hOper_append_own {w : World} {o : Oper} {a : Act} {K : Act → World → Prop} (s x : Operand) (t : TypeId) (ho : o.op = .call { callee := .builtin .append, args := #[s, x], argTypes := #[t, t] })
    (base : Nat) (e : TypeId) (i : TypeInfo) (z : Value) (size bytes : Nat) (h1 : P.underlying t = some (.slice e)) (h2 : P.info? e = some i) (h3 : i.zero = some z) (h4 : i.size = size) (h5 : i.bytes = bytes) (h6 : z.cells.size = size) (h7 : 0 < size)
    (v : Value) (k : Nat) (xs : List Value) (hs : a.eval s = v) (hown : w.ownsRow base e size v k xs) (ad : Addr) (m c : Nat) (news : List Value) (hx : a.eval x = .slice (some ad) m c) (hn : news.length = m * size)
    (hc : ∀ j u, news[j]? = some u → w.cell? (ad.add j) = some u) (h1c : ∀ u ∈ news, u.oneCell' = true) (b1 : k + m ≤ maxLen) (b2 : (k + m) * bytes ≤ 140737488355328) (b3 : base ≤ w.heap.size)
    (hK : ∀ v' w', w'.ownsRow base e size v' (k + m) (xs ++ news) → w.grownBy w' v.ownBlock → R w w' ∧ K (a.put o.dst v') w') : hOper R P o a w K := by
  obtain ⟨v', w', hrun, r1, r2, r3⟩ := run_append_own (P := P) w base t o.type e i z size bytes h1 h2 h3 h4 h5 h6 h7 v k xs hown ad m c news hn hc h1c b1 b2 b3
  unfold hOper
  simp [execOp, ho, resolve, invoke, builtin, hs, hx, hrun, yieldsTo]
  exact hK v' w' r1 r2
theorem mix2_done {Q : Act → World → Prop} {a : Act} {W : World} (h : ∀ w', S W w' → Q a w') : mix S R P ops Q [] a W := h
end
attribute [go_sem] soft yieldsV hOper

end Go.Proofs.YtljpfocmnppjgaaDoor.Two
