/- What slices.Clone at bytes returns. -/
import Derived.Test.YtnfhhhcbgipmcaaDoorOctetNum
namespace Go.Proofs.YtnfhhhcbgipmcaaDoor
open Go Go.RowKit

theorem Bs.of_owns {w : World} {base e n : Nat} {v : Value} {l : List UInt8} (h : w.ownsRow base e 1 v n (byteCells l)) : Bs w v l := by
  have := Sl.of_owns h
  have e : n = l.length := by have h1 := h.1; rw [byteCells_length] at h1; omega
  subst e
  exact this

set_option maxHeartbeats 400000 in
theorem bytesClone_any (v : Value) (l : List UInt8) (w : World) (h : Bs w v l) (hl : l.length ≤ 100000) :
    Calls Tryd.prog 75 #[v] w fun e w' => ∃ v', e = .returned v' ∧ w'.ownsRow w.heap.size 5 1 v' l.length (byteCells l) ∧ Below w.heap.size w w' := by
  have q : ∀ (w : World) (a : Option Addr) (n c n' c' : Nat), (binOp .eql 33 (.slice a n c) (.slice none n' c')).run Tryd.prog w = .ok (.bool a.isNone) w := fun w a n c n' c' => Lib.run_eql_slice_nil w _ _ a n c n' c' Tryd.underlying33
  obtain ⟨-, ao, cap, rfl, -, -, hn, -⟩ := id h
  cases ao with
  | none =>
    obtain rfl := hn rfl
    obtain rfl : l = [] := by
      obtain ⟨_, ao, cap, e, hc, -⟩ := h
      obtain ⟨-, -, rfl⟩ := Value.slice.inj e
      exact List.eq_nil_of_length_eq_zero (by omega)
    go_enter Tryd.func75, Tryd.ntmps75
    go_wp2_with fail
    go_ret
    exact ⟨_, rfl, World.ownsRow_nil _ _ _ _, Below.refl _ _⟩
  | some a =>
    go_enter Tryd.func75, Tryd.ntmps75
    have hb0 : Below w.heap.size w (w.alloc (.cells #[] 5)) := (Below.refl _ _).alloc (Nat.le_refl _) _
    have hown0 := Lib.hid (World.ownsRow_made (base := w.heap.size) (e := 5) (size := 1) w #[] 0 (Nat.le_refl _) (Nat.zero_le _) rfl)
    go_wp2_with (at_builtin; go_must (refine wpList_append_sl rfl _ _ 33 rfl w.heap.size 5 (.int .u8 0) 1 1 Tryd.underlying33 infoU8 rfl (by decide) _ _ _ rfl hown0.out _ l.length (byteCells l) rfl (h.below hb0) (byteCells_oneCell l) (by unfold maxLen; omega) (by omega) hb0.size ?_))
    intro v2 w2 hown2 hgrow _
    have hbel2 := hb0.grown hgrow hb0.size (ownBlock_ge hown0.out)
    try rw [Nat.zero_add, List.nil_append] at hown2
    have HO2 := Lib.hid hown2
    clear hown2 hgrow
    go_wp2_with fail
    go_ret
    exact ⟨_, rfl, HO2.out, hbel2⟩
end Go.Proofs.YtnfhhhcbgipmcaaDoor
