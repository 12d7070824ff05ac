/- Drawn regions in phases, within a round of a range over a function. No program. -/
import Derived.Test.YtljpfocmnppjgaaDoorMixPh
import Derived.OrdersIn
import Derived.RangeFuncCalls
namespace Go.Proofs.YtljpfocmnppjgaaDoor.Two.Ph
open Go Go.RowKit

section
variable {P : Program} {ops : Array Oper} {md : Region.Mode} {S R T : World → World → Prop} {L : List Nat}

def noDefer (ops : Array Oper) : Bool := ops.all fun o => match o.op with | .defer _ => false | _ => true
theorem noDefer_spec {ops : Array Oper} (h : noDefer ops = true) {i : Nat} {o : Oper} (ho : ops[i]? = some o) : ∀ c, o.op ≠ .defer c := by
  intro c hc
  have h1 := Array.all_eq_true'.1 h o (Array.mem_of_getElem? ho)
  simp only [hc] at h1
  cases h1

theorem wpOpIn_of_hOp {l n : Nat} (hd : noDefer ops = true) {i : Nat} {a : Act} {w : World} {K K' : Act → World → Prop} {Q : Exit → Act → World → Prop} (h : ∀ a w', K a w' → K' a w') (hh : hOp R P ops i K a w) :
    wpOpIn (Fence.wide.inRound l) n P ops Q i K' a w := by
  unfold hOp at hh
  unfold wpOpIn
  split
  · rename_i ho; simp only [ho] at hh
  · rename_i o ho
    simp only [ho] at hh
    split
    · rename_i hw
      simp only [hw, if_true] at hh
      unfold hOper at hh
      unfold Oper.wpIn
      refine ⟨fun _ _ => trivial, ?_⟩
      rw [Oper.semAt_eq _ _ _ (noDefer_spec hd ho)]
      generalize (execOp a.eval o).run P w = r at *
      cases r with
      | ok nx w' =>
        cases nx <;> simp only [yieldsTo] at hh <;> simp only [Oper.uponIn] <;> first
          | exact hh.elim
          | exact h _ _ hh.2
          | (refine ⟨(fun hz => by cases hz), ?_⟩
             refine ((callsIn_wide.2 hh.2).inRound l).mono ?_
             rintro e w'' ⟨v, h1, h2, h3⟩
             subst h1
             exact h _ _ h3)
      | halt x w' => exact hh.elim
    · rename_i hw
      simp only [hw] at hh
      exact ⟨fun _ _ => trivial, h _ _ hh⟩

theorem wpAnyIn_of_P {l n : Nat} (hd : noDefer ops = true) (gs : Grow S) {Q : Act → World → Prop} {Q' : Exit → Act → World → Prop} (hQ : ∀ a w, Q a w → Q' .normal a w) : ∀ (fuel : Nat) (listed : Array Bool) (a : Act) (w : World),
    wpAnyP L S R P md ops Q fuel listed a w → wpAnyIn (Fence.wide.inRound l) n P md ops Q' fuel listed a w
  | 0, _, _, _, h => ⟨h.1, hQ _ _ (h.2 _ (gs.refl _))⟩
  | fuel + 1, _, _, _, h => ⟨fun h0 => hQ _ _ (h.1 h0 _ (gs.refl _)), fun i hi => wpOpIn_of_hOp hd (fun a' w' => wpAnyIn_of_P hd gs hQ fuel _ a' w') (h.2 i hi _ (gs.refl _))⟩

theorem wpIn_region_mix3 (gs : Grow S) (gr : Grow R) (sub : ∀ a b, S a b → R a b) {k n id : Nat} {Q : Exit → Act → World → Prop} {a : Act} {w : World} {l : List Oper} (L : List Nat) (order : List (Nat × Nat)) (hd : noDefer l.toArray = true) (hm : P.follows .mixedOrders = true) (hB : mixB L l.toArray order = true)
    (h : mix S R P l.toArray (fun a' w' => Q .normal a' w') order a w.drew) : (Code.region id l.toArray true).wpIn (Fence.wide.inRound k) n P Q a w := by
  simp only [mixB, Bool.and_eq_true, beq_iff_eq] at hB
  obtain ⟨⟨h1, h2⟩, h3⟩ := hB
  refine wpIn_region_any hm (wpAnyIn_of_P (L := L) (R := R) hd gs (Q := fun a' w' => Q .normal a' w') (fun _ _ h => h) _ _ _ _ ?_)
  rw [← h2]
  exact mix_sound gs gr sub h1 order _ a _ ⟨by simpa using h2, fun j oj _ hl => (by rw [getD_replicate_false] at hl; cases hl)⟩ (by rw [h2]; exact h3) h
end
end Go.Proofs.YtljpfocmnppjgaaDoor.Two.Ph
