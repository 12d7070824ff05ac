/- A statement whose order Go leaves open, with calls that make memory: one walk in one order serves every order. Each operation but the loud ones yields one value in every world that has grown from the one at hand; a loud one stands alone when it comes up. No program. -/
import Derived.Test.YtljpfocmnppjgaaDoorBase
import Derived.Still
namespace Go.Proofs.YtljpfocmnppjgaaDoor
open Go Go.RowKit

/-- The worlds that have grown from W. -/
structure Grow (R : World → World → Prop) : Prop where
  refl : ∀ w, R w w
  trans : ∀ a b c, R a b → R b c → R a c
/-- Nothing that was there has turned. -/
def Ext (w w' : World) : Prop := Below w.heap.size w w'
theorem ext_grow : Grow Ext := ⟨fun w => Below.refl _ w, fun _ _ _ h k => below_next h k⟩
theorem ext_of_eq {w w' : World} (h : w = w') : Ext w w' := h ▸ Below.refl _ _
/-- Nothing below block B has turned. -/
theorem below_grow (B : Nat) : Grow (Below B) := ⟨fun w => Below.refl _ w, fun _ _ _ h k => h.trans k⟩

def LaterR (R : World → World → Prop) (W : World) : Type := { w : World // R W w }
abbrev Later (W : World) : Type := LaterR Ext W
instance laterSome (W : World) : Nonempty (LaterR Ext W) := ⟨⟨W, ext_grow.refl W⟩⟩
instance laterSomeB (B : Nat) (W : World) : Nonempty (LaterR (Below B) W) := ⟨⟨W, Below.refl _ _⟩⟩
@[go_sem] theorem ext_refl_true (w : World) : Ext w w = True := eq_true (ext_grow.refl w)
@[go_sem] theorem ext_alloc_true (w : World) (o : Obj) : Ext w (w.alloc o) = True := eq_true ((Below.refl _ _).alloc (Nat.le_refl _) o)
@[go_sem] theorem below_refl_true (B : Nat) (w : World) : Below B w w = True := eq_true (Below.refl _ _)

def yieldsTo (R : World → World → Prop) (P : Program) (w : World) (K : Value → World → Prop) : Result Next → Prop
  | .ok (.value u) w' => R w w' ∧ K u w'
  | .ok .skip w' => R w w' ∧ K undef w'
  | .ok (.enter f args) w' => R w w' ∧ Calls P f args w' (fun e w'' => ∃ v, e = .returned v ∧ R w' w'' ∧ K v w'')
  | _ => False

theorem yieldsTo_mono {R : World → World → Prop} (gr : Grow R) {P : Program} {w : World} {K K' : Value → World → Prop} {r : Result Next} (h : ∀ v w', R w w' → K v w' → K' v w') (hh : yieldsTo R P w K r) : yieldsTo R P w K' r := by
  cases r with
  | ok n w' =>
    cases n <;> simp only [yieldsTo] at hh ⊢ <;> first
      | exact hh
      | exact ⟨hh.1, h _ _ hh.1 hh.2⟩
      | exact ⟨hh.1, hh.2.mono fun e w'' ⟨v, h1, h2, h3⟩ => ⟨v, h1, h2, h _ _ (gr.trans _ _ _ hh.1 h2) h3⟩⟩
  | halt x w' => exact hh

section
variable {R : World → World → Prop} {P : Program} {ops : Array Oper} {md : Region.Mode}

def hOper (R : World → World → Prop) (P : Program) (o : Oper) (a : Act) (w : World) (K : Act → World → Prop) : Prop := yieldsTo R P w (fun v w' => K (a.put o.dst v) w') ((execOp a.eval o).run P w)
def hOp (R : World → World → Prop) (P : Program) (ops : Array Oper) (i : Nat) (K : Act → World → Prop) (a : Act) (w : World) : Prop :=
  match ops[i]? with
  | none => False
  | some o => if Region.wanted o (yielded ops a.tmps) then hOper R P o a w K else K (a.put o.dst undef) w

theorem hOp_mono (gr : Grow R) {i : Nat} {a : Act} {w : World} {K K' : Act → World → Prop} (h : ∀ a w', R w w' → K a w' → K' a w') (hh : hOp R P ops i K a w) : hOp R P ops i K' a w := by
  unfold hOp at *
  split
  · rename_i ho; simp only [ho] at hh
  · rename_i o ho
    simp only [ho] at hh
    split
    · rename_i hw; simp only [hw, if_true] at hh; exact yieldsTo_mono gr (fun v w' hb => h _ _ hb) hh
    · rename_i hw; simp only [hw] at hh; exact h _ _ (gr.refl _) hh

theorem wpOp_of_hOp {i : Nat} {a : Act} {w : World} {K K' : Act → World → Prop} {Q : Exit → Act → World → Prop} (h : ∀ a w', K a w' → K' a w') (hh : hOp R P ops i K a w) : wpOp P ops Q i K' a w := by
  unfold hOp at hh
  unfold wpOp
  split
  · rename_i ho; simp only [ho] at hh
  · rename_i o ho
    simp only [ho] at hh
    split
    · rename_i hw
      simp only [hw, if_true] at hh
      refine .inl ?_
      unfold hOper at hh
      unfold Oper.wp
      generalize (execOp a.eval o).run P w = r at *
      cases r with
      | ok n w' =>
        cases n <;> simp only [yieldsTo] at hh <;> simp only [Oper.upon] <;> first
          | exact hh.elim
          | exact h _ _ hh.2
          | exact hh.2.mono fun e w'' ⟨v, h1, h2, h3⟩ => by subst h1; exact h _ _ h3
      | halt x w' => exact hh.elim
    · rename_i hw; simp only [hw] at hh; exact h _ _ hh

def wpAnyE (R : World → World → Prop) (P : Program) (md : Region.Mode) (ops : Array Oper) (Q : Act → World → Prop) : Nat → Array Bool → Act → World → Prop
  | 0, listed, a, w => Region.ready md ops listed = [] ∧ ∀ w', R w w' → Q a w'
  | fuel + 1, listed, a, w =>
    (Region.ready md ops listed = [] → ∀ w', R w w' → Q a w') ∧
    ∀ i ∈ Region.ready md ops listed, ∀ w1, R w w1 → hOp R P ops i (wpAnyE R P md ops Q fuel (listed.setIfInBounds i true)) a w1

theorem wpAnyE_later (gr : Grow R) {Q : Act → World → Prop} {fuel : Nat} {listed : Array Bool} {a : Act} {w w' : World} (hb : R w w') (h : wpAnyE R P md ops Q fuel listed a w) : wpAnyE R P md ops Q fuel listed a w' := by
  cases fuel with
  | zero => exact ⟨h.1, fun w'' h'' => h.2 w'' (gr.trans _ _ _ hb h'')⟩
  | succ fuel => exact ⟨fun h0 w'' h'' => h.1 h0 w'' (gr.trans _ _ _ hb h''), fun i hi w1 h1 => h.2 i hi w1 (gr.trans _ _ _ hb h1)⟩

theorem wpAny_of_E (gr : Grow R) {Q : Act → World → Prop} {Q' : Exit → Act → World → Prop} (hQ : ∀ a w, Q a w → Q' .normal a w) : ∀ (fuel : Nat) (listed : Array Bool) (a : Act) (w : World),
    wpAnyE R P md ops Q fuel listed a w → wpAny P md ops Q' fuel listed a w
  | 0, _, _, _, h => ⟨h.1, hQ _ _ (h.2 _ (gr.refl _))⟩
  | fuel + 1, _, _, _, h => ⟨fun h0 => hQ _ _ (h.1 h0 _ (gr.refl _)), fun i hi => wpOp_of_hOp (fun a' w' => wpAny_of_E gr hQ fuel _ a' w') (h.2 i hi _ (gr.refl _))⟩

/-- One value, in every later world. -/
def yieldsV (R : World → World → Prop) (P : Program) (w : World) (v : Value) : Result Next → Prop
  | .ok (.value u) w' => R w w' ∧ u = v
  | .ok .skip w' => R w w' ∧ undef = v
  | .ok (.enter f args) w' => R w w' ∧ Calls P f args w' (fun e w'' => e = .returned v ∧ R w' w'')
  | _ => False
def soft (R : World → World → Prop) (P : Program) (o : Oper) (a : Act) (W : World) (K : Act → Prop) : Prop := ∃ v, (∀ x : LaterR R W, yieldsV R P x.1 v ((execOp a.eval o).run P x.1)) ∧ K (a.put o.dst v)

def YieldsE (R : World → World → Prop) (P : Program) (ops : Array Oper) (W : World) (o : Oper) (v : Value) (a : Act) : Prop :=
  (Region.wanted o (yielded ops a.tmps) = true ∧ ∀ x : LaterR R W, yieldsV R P x.1 v ((execOp a.eval o).run P x.1)) ∨ (Region.wanted o (yielded ops a.tmps) = false ∧ v = undef)

theorem YieldsE.later (gr : Grow R) {W W' : World} {o : Oper} {v : Value} {a : Act} (h : YieldsE R P ops W o v a) (hb : R W W') : YieldsE R P ops W' o v a := by
  rcases h with ⟨h1, h2⟩ | h
  · exact .inl ⟨h1, fun x => h2 ⟨x.1, gr.trans _ _ _ hb x.2⟩⟩
  · exact .inr h

theorem YieldsE.hOp {i : Nat} {o : Oper} {v : Value} {a : Act} {W : World} (gr : Grow R) (hi : ops[i]? = some o) (hy : YieldsE R P ops W o v a) {K : Act → World → Prop} {w1 : World} (hb : R W w1)
    (h : ∀ w', R W w' → K (a.put o.dst v) w') : hOp R P ops i K a w1 := by
  unfold Go.Proofs.YtljpfocmnppjgaaDoor.hOp
  simp only [hi]
  rcases hy with ⟨hw, hv⟩ | ⟨hw, rfl⟩
  · simp only [hw, if_true]
    have h3 := hv ⟨w1, hb⟩
    unfold hOper
    dsimp only at h3
    generalize (execOp a.eval o).run P w1 = r at *
    cases r with
    | ok n w' =>
      cases n <;> simp only [yieldsV] at h3 <;> simp only [yieldsTo] <;> first
        | exact h3.elim
        | (obtain ⟨h4, rfl⟩ := h3; exact ⟨h4, h _ (gr.trans _ _ _ hb h4)⟩)
        | exact ⟨h3.1, h3.2.mono fun e w'' ⟨h5, h6⟩ => ⟨v, h5, h6, h _ (gr.trans _ _ _ hb (gr.trans _ _ _ h3.1 h6))⟩⟩
    | halt x w' => exact h3.elim
  · simp only [hw, Bool.false_eq_true, if_false]
    exact h _ hb

theorem YieldsE.of_same {o : Oper} {v : Value} {a a' : Act} {W : World} (hy : YieldsE R P ops W o v a) (he : execOp a'.eval o = execOp a.eval o)
    (hw : Region.wanted o (yielded ops a'.tmps) = Region.wanted o (yielded ops a.tmps)) : YieldsE R P ops W o v a' := by
  unfold YieldsE at *
  rw [he, hw]
  exact hy

theorem hOp_put (gr : Grow R) {j : Nat} {oi oj : Oper} {v : Value} {W : World} (hj : ops[j]? = some oj) (hap : oi.apart ops oj = true)
    (hsi : ∀ cs b, oi.op ≠ .select cs b) (hsj : ∀ cs b, oj.op ≠ .select cs b) {K : Act → World → Prop} {a : Act} {w : World}
    (hy : YieldsE R P ops W oi v a) (h : hOp R P ops j K (a.put oi.dst v) w) :
    hOp R P ops j (fun a' w' => YieldsE R P ops W oi v a' ∧ K (a'.put oi.dst v) w') a w := by
  obtain ⟨h1, h2, h3⟩ := Oper.apart_spec hap
  have keep : ∀ (a : Act), YieldsE R P ops W oi v a → ∀ u, YieldsE R P ops W oi v (a.put oj.dst u) := fun a hy u =>
    hy.of_same (execOp_put oi hsi a oj.dst u h3) (wanted_put oi a oj.dst u h3)
  unfold hOp at *
  simp only [hj] at *
  rw [wanted_put oj a oi.dst v h1] at h
  split
  · rename_i hw
    simp only [hw, if_true] at h
    unfold hOper at *
    rw [execOp_put oj hsj a oi.dst v h1] at h
    refine yieldsTo_mono gr (fun u w' _ hk => ⟨keep a hy u, ?_⟩) h
    rw [← Act.put_comm a v u h2]
    exact hk
  · rename_i hw
    simp only [hw] at h
    exact ⟨keep a hy _, by rw [← Act.put_comm a v undef h2]; exact h⟩

theorem wpAnyE_first (gr : Grow R) {Q : Act → World → Prop} {i : Nat} {oi : Oper} {v : Value} (hi : ops[i]? = some oi) (hsel : ∀ (j : Nat) (o : Oper) cs b, ops[j]? = some o → o.op ≠ .select cs b) :
    ∀ (fuel : Nat) (listed : Array Bool) (a : Act) (W : World),
      (∀ j oj, ops[j]? = some oj → j ≠ i → listed.getD j true = false → (∀ e ∈ oj.after, Region.binds md e = true → e.on ≠ i) → oi.apart ops oj = true) →
      i ∈ Region.ready md ops listed → YieldsE R P ops W oi v a →
      wpAnyE R P md ops Q fuel (listed.setIfInBounds i true) (a.put oi.dst v) W → wpAnyE R P md ops Q (fuel + 1) listed a W := by
  intro fuel
  induction fuel with
  | zero =>
    intro listed a W _ hr hy H
    refine ⟨fun h => (by rw [h] at hr; cases hr), fun j hj w1 hb => ?_⟩
    by_cases hji : j = i
    · subst hji; exact hy.hOp gr hi hb fun w' hb' => wpAnyE_later gr hb' H
    · have := ready_mono hj hji
      rw [H.1] at this
      cases this
  | succ fuel ih =>
    intro listed a W hfree hr hy H
    refine ⟨fun h => (by rw [h] at hr; cases hr), fun j hj w1 hb => ?_⟩
    by_cases hji : j = i
    · subst hji; exact hy.hOp gr hi hb fun w' hb' => wpAnyE_later gr hb' H
    · have h1 := H.2 j (ready_mono hj hji) w1 hb
      obtain ⟨hjun, oj, hoj, hall⟩ := mem_ready.1 hj
      have hnot : ∀ e ∈ oj.after, Region.binds md e = true → e.on ≠ i := fun e he hbd heq => by
        have h1 := hall e he hbd
        have h0 := (mem_ready.1 hr).1
        rw [heq] at h1
        rcases Nat.lt_or_ge i listed.size with h' | h'
        · simp [h'] at h0 h1; rw [h0] at h1; cases h1
        · simp [Array.getElem?_eq_none h'] at h1
      have h2 := hOp_put gr hoj (hfree j oj hoj hji hjun hnot) (fun cs b => hsel i oi cs b hi) (fun cs b => hsel j oj cs b hoj) hy h1
      have hfree' : ∀ k ok, ops[k]? = some ok → k ≠ i → (listed.setIfInBounds j true).getD k true = false →
          (∀ e ∈ ok.after, Region.binds md e = true → e.on ≠ i) → oi.apart ops ok = true := fun k ok hk hki hun hno => by
        refine hfree k ok hk hki ?_ hno
        by_cases hjk : j = k
        · subst hjk; exact hjun
        · rw [getD_set_ne true hjk] at hun; exact hun
      refine hOp_mono gr (fun a' w' hb' h3 => ih (listed.setIfInBounds j true) a' w' hfree' (ready_mono hr (Ne.symm hji)) (h3.1.later gr (gr.trans _ _ _ hb hb')) ?_) h2
      rw [Array.setIfInBounds_comm _ _ hji]
      exact h3.2

/-- The walk in one order; 'true': a loud operation. -/
def mix (R : World → World → Prop) (P : Program) (ops : Array Oper) (Q : Act → World → Prop) : List (Nat × Bool) → Act → World → Prop
  | [], a, w => ∀ w', R w w' → Q a w'
  | (i, false) :: rest, a, w => ∃ o, ops[i]? = some o ∧ if Region.wanted o (yielded ops a.tmps) then soft R P o a w (fun a' => mix R P ops Q rest a' w) else mix R P ops Q rest (a.put o.dst undef) w
  | (i, true) :: rest, a, w => ∃ o, ops[i]? = some o ∧ if Region.wanted o (yielded ops a.tmps) then ∀ x : LaterR R w, hOper R P o a x.1 (mix R P ops Q rest) else mix R P ops Q rest (a.put o.dst undef) w

def mixOk (md : Region.Mode) (ops : Array Oper) : List (Nat × Bool) → Array Bool → Bool
  | [], listed => (Region.ready md ops listed).isEmpty
  | (i, false) :: rest, listed => (Region.ready md ops listed).contains i && Region.free md ops listed i && mixOk md ops rest (listed.setIfInBounds i true)
  | (i, true) :: rest, listed => (Region.ready md ops listed == [i]) && mixOk md ops rest (listed.setIfInBounds i true)
def mixB (ops : Array Oper) (order : List (Nat × Bool)) : Bool := Region.noSelect ops && order.length == ops.size && mixOk .any ops order (Array.replicate ops.size false)

theorem mix_sound (gr : Grow R) {Q : Act → World → Prop} (hs : Region.noSelect ops = true) : ∀ (l : List (Nat × Bool)) (listed : Array Bool) (a : Act) (w : World),
    mixOk md ops l listed = true → mix R P ops Q l a w → wpAnyE R P md ops Q l.length listed a w
  | [], _, _, _, hB, h => ⟨by simpa [mixOk] using hB, h⟩
  | (i, false) :: l, listed, a, w, hB, h => by
    simp only [mixOk, Bool.and_eq_true] at hB
    obtain ⟨⟨hr, hf⟩, hB'⟩ := hB
    obtain ⟨o, ho, h⟩ := h
    have hy : ∃ v, YieldsE R P ops w o v a ∧ mix R P ops Q l (a.put o.dst v) w := by
      split at h
      · rename_i hw
        obtain ⟨v, h1, h2⟩ := h
        exact ⟨v, .inl ⟨hw, h1⟩, h2⟩
      · rename_i hw
        exact ⟨undef, .inr ⟨by simpa using hw, rfl⟩, h⟩
    obtain ⟨v, hy, hK⟩ := hy
    exact wpAnyE_first gr ho (Region.noSelect_spec hs) l.length listed a w (Region.free_spec ho hf) (by simpa using hr) hy (mix_sound gr hs l _ _ _ hB' hK)
  | (i, true) :: l, listed, a, w, hB, h => by
    simp only [mixOk, Bool.and_eq_true, beq_iff_eq] at hB
    obtain ⟨hr, hB'⟩ := hB
    obtain ⟨o, ho, h⟩ := h
    refine ⟨fun h0 => (by rw [hr] at h0; cases h0), fun j hj w1 hb => ?_⟩
    rw [hr, List.mem_singleton] at hj
    subst hj
    unfold hOp
    simp only [ho]
    split at h
    · rename_i hw
      simp only [hw, if_true]
      exact yieldsTo_mono gr (fun v w' _ hk => mix_sound gr hs l _ _ _ hB' hk) (h ⟨w1, hb⟩)
    · rename_i hw
      simp only [hw]
      exact wpAnyE_later gr hb (mix_sound gr hs l _ _ _ hB' h)

theorem wp_region_mix (gr : Grow R) {id : Nat} {Q : Exit → Act → World → Prop} {a : Act} {w : World} {l : List Oper} (order : List (Nat × Bool)) (hm : P.follows .mixedOrders = true) (hB : mixB l.toArray order = true)
    (h : mix R P l.toArray (fun a' w' => Q .normal a' w') order a w.drew) : (Code.region id l.toArray true).wp P Q a w := by
  simp only [mixB, Bool.and_eq_true, beq_iff_eq] at hB
  obtain ⟨⟨h1, h2⟩, h3⟩ := hB
  refine wp_region_any hm (wpAny_of_E gr (Q := fun a' w' => Q .normal a' w') (fun _ _ h => h) _ _ _ _ ?_)
  rw [← h2]
  exact mix_sound gr h1 order _ a _ (by rw [h2]; exact h3) h

theorem mix_soft {Q : Act → World → Prop} {l : List Oper} {i : Nat} {rest : List (Nat × Bool)} {o : Oper} {a : Act} {W : World} (ho : l[i]? = some o)
    (h : ∀ K : Act → Prop, (∀ a', mix R P l.toArray Q rest a' W → K a') → if Region.wanted o (yielded l.toArray a.tmps) then soft R P o a W K else K (a.put o.dst undef)) :
    mix R P l.toArray Q ((i, false) :: rest) a W := ⟨o, by simpa using ho, h _ fun _ h => h⟩
theorem mix_loud {Q : Act → World → Prop} {l : List Oper} {i : Nat} {rest : List (Nat × Bool)} {o : Oper} {a : Act} {W : World} (ho : l[i]? = some o)
    (h : ∀ K : Act → World → Prop, (∀ a' w', mix R P l.toArray Q rest a' w' → K a' w') → if Region.wanted o (yielded l.toArray a.tmps) then ∀ x : LaterR R W, hOper R P o a x.1 K else K (a.put o.dst undef) W) :
    mix R P l.toArray Q ((i, true) :: rest) a W := ⟨o, by simpa using ho, h _ fun _ _ h => h⟩
theorem mix_done {Q : Act → World → Prop} {a : Act} {W : World} (h : ∀ w', R W w' → Q a w') : mix R P ops Q [] a W := h
end
attribute [go_sem] soft yieldsV hOper yieldsTo

end Go.Proofs.YtljpfocmnppjgaaDoor
