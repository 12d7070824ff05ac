/- A statement whose order Go leaves open, with calls that make memory: one walk in one order serves every order. Each operation but the loud ones yields one value in every world that has grown from the one at hand; a loud one stands alone when it comes up. No program. -/
import Derived.Test.YtigahgkjidbhbaaDoorBase
import Derived.Still
namespace Go.Proofs.YtigahgkjidbhbaaDoor
open Go Go.RowKit

/-- The worlds that have grown from W. -/
def Later (W : World) : Type := { w : World // Below W.heap.size W w }
instance (W : World) : Nonempty (Later W) := ⟨⟨W, Below.refl _ _⟩⟩
@[go_sem] theorem below_refl_true (w : World) : Below w.heap.size w w = True := eq_true (Below.refl _ _)
@[go_sem] theorem below_alloc_true (w : World) (o : Obj) : Below w.heap.size w (w.alloc o) = True := eq_true ((Below.refl _ _).alloc (Nat.le_refl _) o)

def yieldsTo (P : Program) (w : World) (K : Value → World → Prop) : Result Next → Prop
  | .ok (.value u) w' => Below w.heap.size w w' ∧ K u w'
  | .ok .skip w' => Below w.heap.size w w' ∧ K undef w'
  | .ok (.enter f args) w' => Below w.heap.size w w' ∧ Calls P f args w' (fun e w'' => ∃ v, e = .returned v ∧ Below w'.heap.size w' w'' ∧ K v w'')
  | _ => False

theorem yieldsTo_mono {P : Program} {w : World} {K K' : Value → World → Prop} {r : Result Next} (h : ∀ v w', Below w.heap.size w w' → K v w' → K' v w') (hh : yieldsTo P w K r) : yieldsTo P w K' r := by
  cases r with
  | ok n w' =>
    cases n <;> simp only [yieldsTo] at hh ⊢ <;> first
      | exact hh
      | exact ⟨hh.1, h _ _ hh.1 hh.2⟩
      | exact ⟨hh.1, hh.2.mono fun e w'' ⟨v, h1, h2, h3⟩ => ⟨v, h1, h2, h _ _ (below_next hh.1 h2) h3⟩⟩
  | halt x w' => exact hh

section
variable {P : Program} {ops : Array Oper} {md : Region.Mode}

def hOper (P : Program) (o : Oper) (a : Act) (w : World) (K : Act → World → Prop) : Prop := yieldsTo P w (fun v w' => K (a.put o.dst v) w') ((execOp a.eval o).run P w)
def hOp (P : Program) (ops : Array Oper) (i : Nat) (K : Act → World → Prop) (a : Act) (w : World) : Prop :=
  match ops[i]? with
  | none => False
  | some o => if Region.wanted o (yielded ops a.tmps) then hOper P o a w K else K (a.put o.dst undef) w

theorem hOp_mono {i : Nat} {a : Act} {w : World} {K K' : Act → World → Prop} (h : ∀ a w', Below w.heap.size w w' → K a w' → K' a w') (hh : hOp P ops i K a w) : hOp P ops i K' a w := by
  unfold hOp at *
  split
  · rename_i ho; simp only [ho] at hh
  · rename_i o ho
    simp only [ho] at hh
    split
    · rename_i hw; simp only [hw, if_true] at hh; exact yieldsTo_mono (fun v w' hb => h _ _ hb) hh
    · rename_i hw; simp only [hw] at hh; exact h _ _ (Below.refl _ _) hh

theorem wpOp_of_hOp {i : Nat} {a : Act} {w : World} {K K' : Act → World → Prop} {Q : Exit → Act → World → Prop} (h : ∀ a w', K a w' → K' a w') (hh : hOp P ops i K a w) : wpOp P ops Q i K' a w := by
  unfold hOp at hh
  unfold wpOp
  split
  · rename_i ho; simp only [ho] at hh
  · rename_i o ho
    simp only [ho] at hh
    split
    · rename_i hw
      simp only [hw, if_true] at hh
      refine .inl ?_
      unfold hOper at hh
      unfold Oper.wp
      generalize (execOp a.eval o).run P w = r at *
      cases r with
      | ok n w' =>
        cases n <;> simp only [yieldsTo] at hh <;> simp only [Oper.upon] <;> first
          | exact hh.elim
          | exact h _ _ hh.2
          | exact hh.2.mono fun e w'' ⟨v, h1, h2, h3⟩ => by subst h1; exact h _ _ h3
      | halt x w' => exact hh.elim
    · rename_i hw; simp only [hw] at hh; exact h _ _ hh

def wpAnyE (P : Program) (md : Region.Mode) (ops : Array Oper) (Q : Act → World → Prop) : Nat → Array Bool → Act → World → Prop
  | 0, listed, a, w => Region.ready md ops listed = [] ∧ ∀ w', Below w.heap.size w w' → Q a w'
  | fuel + 1, listed, a, w =>
    (Region.ready md ops listed = [] → ∀ w', Below w.heap.size w w' → Q a w') ∧
    ∀ i ∈ Region.ready md ops listed, ∀ w1, Below w.heap.size w w1 → hOp P ops i (wpAnyE P md ops Q fuel (listed.setIfInBounds i true)) a w1

theorem wpAnyE_later {Q : Act → World → Prop} {fuel : Nat} {listed : Array Bool} {a : Act} {w w' : World} (hb : Below w.heap.size w w') (h : wpAnyE P md ops Q fuel listed a w) : wpAnyE P md ops Q fuel listed a w' := by
  cases fuel with
  | zero => exact ⟨h.1, fun w'' h'' => h.2 w'' (below_next hb h'')⟩
  | succ fuel => exact ⟨fun h0 w'' h'' => h.1 h0 w'' (below_next hb h''), fun i hi w1 h1 => h.2 i hi w1 (below_next hb h1)⟩

theorem wpAny_of_E {Q : Act → World → Prop} {Q' : Exit → Act → World → Prop} (hQ : ∀ a w, Q a w → Q' .normal a w) : ∀ (fuel : Nat) (listed : Array Bool) (a : Act) (w : World),
    wpAnyE P md ops Q fuel listed a w → wpAny P md ops Q' fuel listed a w
  | 0, _, _, _, h => ⟨h.1, hQ _ _ (h.2 _ (Below.refl _ _))⟩
  | fuel + 1, _, _, _, h => ⟨fun h0 => hQ _ _ (h.1 h0 _ (Below.refl _ _)), fun i hi => wpOp_of_hOp (fun a' w' => wpAny_of_E hQ fuel _ a' w') (h.2 i hi _ (Below.refl _ _))⟩

/-- One value, in every later world. -/
def yieldsV (P : Program) (w : World) (v : Value) : Result Next → Prop
  | .ok (.value u) w' => Below w.heap.size w w' ∧ u = v
  | .ok .skip w' => Below w.heap.size w w' ∧ undef = v
  | .ok (.enter f args) w' => Below w.heap.size w w' ∧ Calls P f args w' (fun e w'' => e = .returned v ∧ Below w'.heap.size w' w'')
  | _ => False
def soft (P : Program) (o : Oper) (a : Act) (W : World) (K : Act → Prop) : Prop := ∃ v, (∀ x : Later W, yieldsV P x.1 v ((execOp a.eval o).run P x.1)) ∧ K (a.put o.dst v)

def YieldsE (P : Program) (ops : Array Oper) (W : World) (o : Oper) (v : Value) (a : Act) : Prop :=
  (Region.wanted o (yielded ops a.tmps) = true ∧ ∀ x : Later W, yieldsV P x.1 v ((execOp a.eval o).run P x.1)) ∨ (Region.wanted o (yielded ops a.tmps) = false ∧ v = undef)

theorem YieldsE.later {W W' : World} {o : Oper} {v : Value} {a : Act} (h : YieldsE P ops W o v a) (hb : Below W.heap.size W W') : YieldsE P ops W' o v a := by
  rcases h with ⟨h1, h2⟩ | h
  · exact .inl ⟨h1, fun x => h2 ⟨x.1, below_next hb x.2⟩⟩
  · exact .inr h

theorem YieldsE.hOp {i : Nat} {o : Oper} {v : Value} {a : Act} {W : World} (hi : ops[i]? = some o) (hy : YieldsE P ops W o v a) {K : Act → World → Prop} {w1 : World} (hb : Below W.heap.size W w1)
    (h : ∀ w', Below W.heap.size W w' → K (a.put o.dst v) w') : hOp P ops i K a w1 := by
  unfold Go.Proofs.YtigahgkjidbhbaaDoor.hOp
  simp only [hi]
  rcases hy with ⟨hw, hv⟩ | ⟨hw, rfl⟩
  · simp only [hw, if_true]
    have h3 := hv ⟨w1, hb⟩
    unfold hOper
    dsimp only at h3
    generalize (execOp a.eval o).run P w1 = r at *
    cases r with
    | ok n w' =>
      cases n <;> simp only [yieldsV] at h3 <;> simp only [yieldsTo] <;> first
        | exact h3.elim
        | (obtain ⟨h4, rfl⟩ := h3; exact ⟨h4, h _ (below_next hb h4)⟩)
        | exact ⟨h3.1, h3.2.mono fun e w'' ⟨h5, h6⟩ => ⟨v, h5, h6, h _ (below_next hb (below_next h3.1 h6))⟩⟩
    | halt x w' => exact h3.elim
  · simp only [hw, Bool.false_eq_true, if_false]
    exact h _ hb

theorem YieldsE.of_same {o : Oper} {v : Value} {a a' : Act} {W : World} (hy : YieldsE P ops W o v a) (he : execOp a'.eval o = execOp a.eval o)
    (hw : Region.wanted o (yielded ops a'.tmps) = Region.wanted o (yielded ops a.tmps)) : YieldsE P ops W o v a' := by
  unfold YieldsE at *
  rw [he, hw]
  exact hy

theorem hOp_put {j : Nat} {oi oj : Oper} {v : Value} {W : World} (hj : ops[j]? = some oj) (hap : oi.apart ops oj = true)
    (hsi : ∀ cs b, oi.op ≠ .select cs b) (hsj : ∀ cs b, oj.op ≠ .select cs b) {K : Act → World → Prop} {a : Act} {w : World}
    (hy : YieldsE P ops W oi v a) (h : hOp P ops j K (a.put oi.dst v) w) :
    hOp P ops j (fun a' w' => YieldsE P ops W oi v a' ∧ K (a'.put oi.dst v) w') a w := by
  obtain ⟨h1, h2, h3⟩ := Oper.apart_spec hap
  have keep : ∀ (a : Act), YieldsE P ops W oi v a → ∀ u, YieldsE P ops W oi v (a.put oj.dst u) := fun a hy u =>
    hy.of_same (execOp_put oi hsi a oj.dst u h3) (wanted_put oi a oj.dst u h3)
  unfold hOp at *
  simp only [hj] at *
  rw [wanted_put oj a oi.dst v h1] at h
  split
  · rename_i hw
    simp only [hw, if_true] at h
    unfold hOper at *
    rw [execOp_put oj hsj a oi.dst v h1] at h
    refine yieldsTo_mono (fun u w' _ hk => ⟨keep a hy u, ?_⟩) h
    rw [← Act.put_comm a v u h2]
    exact hk
  · rename_i hw
    simp only [hw] at h
    exact ⟨keep a hy _, by rw [← Act.put_comm a v undef h2]; exact h⟩

theorem wpAnyE_first {Q : Act → World → Prop} {i : Nat} {oi : Oper} {v : Value} (hi : ops[i]? = some oi) (hsel : ∀ (j : Nat) (o : Oper) cs b, ops[j]? = some o → o.op ≠ .select cs b) :
    ∀ (fuel : Nat) (listed : Array Bool) (a : Act) (W : World),
      (∀ j oj, ops[j]? = some oj → j ≠ i → listed.getD j true = false → (∀ e ∈ oj.after, Region.binds md e = true → e.on ≠ i) → oi.apart ops oj = true) →
      i ∈ Region.ready md ops listed → YieldsE P ops W oi v a →
      wpAnyE P md ops Q fuel (listed.setIfInBounds i true) (a.put oi.dst v) W → wpAnyE P md ops Q (fuel + 1) listed a W := by
  intro fuel
  induction fuel with
  | zero =>
    intro listed a W _ hr hy H
    refine ⟨fun h => (by rw [h] at hr; cases hr), fun j hj w1 hb => ?_⟩
    by_cases hji : j = i
    · subst hji; exact hy.hOp hi hb fun w' hb' => wpAnyE_later hb' H
    · have := ready_mono hj hji
      rw [H.1] at this
      cases this
  | succ fuel ih =>
    intro listed a W hfree hr hy H
    refine ⟨fun h => (by rw [h] at hr; cases hr), fun j hj w1 hb => ?_⟩
    by_cases hji : j = i
    · subst hji; exact hy.hOp hi hb fun w' hb' => wpAnyE_later hb' H
    · have h1 := H.2 j (ready_mono hj hji) w1 hb
      obtain ⟨hjun, oj, hoj, hall⟩ := mem_ready.1 hj
      have hnot : ∀ e ∈ oj.after, Region.binds md e = true → e.on ≠ i := fun e he hbd heq => by
        have h1 := hall e he hbd
        have h0 := (mem_ready.1 hr).1
        rw [heq] at h1
        rcases Nat.lt_or_ge i listed.size with h' | h'
        · simp [h'] at h0 h1; rw [h0] at h1; cases h1
        · simp [Array.getElem?_eq_none h'] at h1
      have h2 := hOp_put hoj (hfree j oj hoj hji hjun hnot) (fun cs b => hsel i oi cs b hi) (fun cs b => hsel j oj cs b hoj) hy h1
      have hfree' : ∀ k ok, ops[k]? = some ok → k ≠ i → (listed.setIfInBounds j true).getD k true = false →
          (∀ e ∈ ok.after, Region.binds md e = true → e.on ≠ i) → oi.apart ops ok = true := fun k ok hk hki hun hno => by
        refine hfree k ok hk hki ?_ hno
        by_cases hjk : j = k
        · subst hjk; exact hjun
        · rw [getD_set_ne true hjk] at hun; exact hun
      refine hOp_mono (fun a' w' hb' h3 => ih (listed.setIfInBounds j true) a' w' hfree' (ready_mono hr (Ne.symm hji)) (h3.1.later (below_next hb hb')) ?_) h2
      rw [Array.setIfInBounds_comm _ _ hji]
      exact h3.2

/-- The walk in one order; 'true': a loud operation. -/
def mix (P : Program) (ops : Array Oper) (Q : Act → World → Prop) : List (Nat × Bool) → Act → World → Prop
  | [], a, w => ∀ w', Below w.heap.size w w' → Q a w'
  | (i, false) :: rest, a, w => ∃ o, ops[i]? = some o ∧ if Region.wanted o (yielded ops a.tmps) then soft P o a w (fun a' => mix P ops Q rest a' w) else mix P ops Q rest (a.put o.dst undef) w
  | (i, true) :: rest, a, w => ∃ o, ops[i]? = some o ∧ if Region.wanted o (yielded ops a.tmps) then ∀ x : Later w, hOper P o a x.1 (mix P ops Q rest) else mix P ops Q rest (a.put o.dst undef) w

def mixOk (md : Region.Mode) (ops : Array Oper) : List (Nat × Bool) → Array Bool → Bool
  | [], listed => (Region.ready md ops listed).isEmpty
  | (i, false) :: rest, listed => (Region.ready md ops listed).contains i && Region.free md ops listed i && mixOk md ops rest (listed.setIfInBounds i true)
  | (i, true) :: rest, listed => (Region.ready md ops listed == [i]) && mixOk md ops rest (listed.setIfInBounds i true)
def mixB (ops : Array Oper) (order : List (Nat × Bool)) : Bool := Region.noSelect ops && order.length == ops.size && mixOk .any ops order (Array.replicate ops.size false)

theorem mix_sound {Q : Act → World → Prop} (hs : Region.noSelect ops = true) : ∀ (l : List (Nat × Bool)) (listed : Array Bool) (a : Act) (w : World),
    mixOk md ops l listed = true → mix P ops Q l a w → wpAnyE P md ops Q l.length listed a w
  | [], _, _, _, hB, h => ⟨by simpa [mixOk] using hB, h⟩
  | (i, false) :: l, listed, a, w, hB, h => by
    simp only [mixOk, Bool.and_eq_true] at hB
    obtain ⟨⟨hr, hf⟩, hB'⟩ := hB
    obtain ⟨o, ho, h⟩ := h
    have hy : ∃ v, YieldsE P ops w o v a ∧ mix P ops Q l (a.put o.dst v) w := by
      split at h
      · rename_i hw
        obtain ⟨v, h1, h2⟩ := h
        exact ⟨v, .inl ⟨hw, h1⟩, h2⟩
      · rename_i hw
        exact ⟨undef, .inr ⟨by simpa using hw, rfl⟩, h⟩
    obtain ⟨v, hy, hK⟩ := hy
    exact wpAnyE_first ho (Region.noSelect_spec hs) l.length listed a w (Region.free_spec ho hf) (by simpa using hr) hy (mix_sound hs l _ _ _ hB' hK)
  | (i, true) :: l, listed, a, w, hB, h => by
    simp only [mixOk, Bool.and_eq_true, beq_iff_eq] at hB
    obtain ⟨hr, hB'⟩ := hB
    obtain ⟨o, ho, h⟩ := h
    refine ⟨fun h0 => (by rw [hr] at h0; cases h0), fun j hj w1 hb => ?_⟩
    rw [hr, List.mem_singleton] at hj
    subst hj
    unfold hOp
    simp only [ho]
    split at h
    · rename_i hw
      simp only [hw, if_true]
      exact yieldsTo_mono (fun v w' _ hk => mix_sound hs l _ _ _ hB' hk) (h ⟨w1, hb⟩)
    · rename_i hw
      simp only [hw]
      exact wpAnyE_later hb (mix_sound hs l _ _ _ hB' h)

theorem wp_region_mix {id : Nat} {Q : Exit → Act → World → Prop} {a : Act} {w : World} {l : List Oper} (order : List (Nat × Bool)) (hm : P.follows .mixedOrders = true) (hB : mixB l.toArray order = true)
    (h : mix P l.toArray (fun a' w' => Q .normal a' w') order a w.drew) : (Code.region id l.toArray true).wp P Q a w := by
  simp only [mixB, Bool.and_eq_true, beq_iff_eq] at hB
  obtain ⟨⟨h1, h2⟩, h3⟩ := hB
  refine wp_region_any hm (wpAny_of_E (Q := fun a' w' => Q .normal a' w') (fun _ _ h => h) _ _ _ _ ?_)
  rw [← h2]
  exact mix_sound h1 order _ a _ (by rw [h2]; exact h3) h

theorem mix_soft {Q : Act → World → Prop} {l : List Oper} {i : Nat} {rest : List (Nat × Bool)} {o : Oper} {a : Act} {W : World} (ho : l[i]? = some o)
    (h : ∀ K : Act → Prop, (∀ a', mix P l.toArray Q rest a' W → K a') → if Region.wanted o (yielded l.toArray a.tmps) then soft P o a W K else K (a.put o.dst undef)) :
    mix P l.toArray Q ((i, false) :: rest) a W := ⟨o, by simpa using ho, h _ fun _ h => h⟩
theorem mix_loud {Q : Act → World → Prop} {l : List Oper} {i : Nat} {rest : List (Nat × Bool)} {o : Oper} {a : Act} {W : World} (ho : l[i]? = some o)
    (h : ∀ K : Act → World → Prop, (∀ a' w', mix P l.toArray Q rest a' w' → K a' w') → if Region.wanted o (yielded l.toArray a.tmps) then ∀ x : Later W, hOper P o a x.1 K else K (a.put o.dst undef) W) :
    mix P l.toArray Q ((i, true) :: rest) a W := ⟨o, by simpa using ho, h _ fun _ _ h => h⟩
theorem mix_done {Q : Act → World → Prop} {a : Act} {W : World} (h : ∀ w', Below W.heap.size W w' → Q a w') : mix P ops Q [] a W := h
end
attribute [go_sem] soft yieldsV hOper yieldsTo

end Go.Proofs.YtigahgkjidbhbaaDoor
