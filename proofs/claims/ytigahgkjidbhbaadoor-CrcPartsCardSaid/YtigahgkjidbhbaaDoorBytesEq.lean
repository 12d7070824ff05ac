/- What slices.Equal and slices.Clone at bytes return. -/
import Derived.Test.YtigahgkjidbhbaaDoorOctetNum
import Derived.BigQuiet
import Derived.Deep.QuietTactic
namespace Go.Proofs.YtigahgkjidbhbaaDoor
open Go Go.RowKit

theorem below_drewN (w : World) (n : Nat) : Below w.heap.size w (w.drewN n) := ⟨rfl, rfl, rfl, Nat.le_refl _, fun _ _ => rfl⟩

theorem drewN_cell (w : World) (n : Nat) (a : Addr) : (w.drewN n).cell? a = w.cell? a := rfl

set_option maxHeartbeats 400000 in
theorem bytesEq_any (v1 v2 : Value) (l m : List UInt8) (w : World) (h1 : Bs w v1 l) (h2 : Bs w v2 m) :
    Calls Tryd.prog 17 #[v1, v2] w fun e w' => e = .returned (.bool (l == m)) ∧ Below w.heap.size w w' := by
  obtain ⟨-, ao1, cap1, rfl, hlc, hcm, -, -⟩ := id h1
  obtain ⟨-, ao2, cap2, rfl, -, -, -, -⟩ := id h2
  have hbig : l.length ≤ 9223372036854775807 := by unfold maxLen at hcm; omega
  clear hcm hlc
  by_cases hlen : l.length = m.length
  · have hne : ((l.length : Int) != (m.length : Int)) = false := by rw [bne_eq_false_iff_eq]; omega
    have HL := Lib.hid hlen
    clear hlen
    go_enter Tryd.func17, Tryd.ntmps17
    go_wp2_with fail
    go_loopw [13] (fun i wr => ∃ k nq : Nat, k ≤ l.length ∧ i = .int .i64 k ∧ wr = w.drewN nq ∧ Hid (l.take k = m.take k)) (fun i _ => l.length - (intOf i).toNat)
    case atStart => exact ⟨0, 0, by omega, rfl, rfl, by simp [Hid]⟩
    case round =>
      obtain ⟨k, nq, hk, rfl, rfl, hr⟩ := hrel
      by_cases hlt : k < l.length
      · have hltm : k < m.length := by have := HL.out; omega
        obtain ⟨b1, o1, rfl, hc1⟩ := h1.at hlt
        obtain ⟨b2, o2, rfl, hc2⟩ := h2.at hltm
        have c1 := hc1 k hlt
        have c2 := hc2 k hltm
        have hi1 : (k : Int) < (l.length : Int) := by omega
        have hi2 : (k : Int) < (m.length : Int) := by omega
        clear hc1 hc2 h1 h2
        have hk1 : Hid (l.take (k + 1) = l.take k ++ [l[k]]) := List.take_succ_eq_append_getElem hlt
        have hk2 : Hid (m.take (k + 1) = m.take k ++ [m[k]]) := List.take_succ_eq_append_getElem hltm
        have hlm : Hid (l[k] ≠ m[k] → (l == m) = false) := fun hx => by
          rw [beq_eq_false_iff_ne]
          intro e
          subst e
          exact hx rfl
        obtain ⟨x, hx⟩ : ∃ x, l[k] = x := ⟨_, rfl⟩
        obtain ⟨y, hy⟩ : ∃ y, m[k] = y := ⟨_, rfl⟩
        simp only [hx, hy] at c1 c2 hk1 hk2 hlm
        clear hx hy
        by_cases hxy : x = y
        · subst hxy
          have hd : ((x.toNat : Int) != (x.toNat : Int)) = false := by simp
          go_wp2_with fail
          go_quiet (fail)
          go_wp2_with fail
          go_roundw
          case rel => exact ⟨k + 1, _, by omega, by go_num, rfl, by have a1 := hr.out; have a2 := hk1.out; have a3 := hk2.out; unfold Hid; rw [a2, a3, a1]⟩
          case measure => simp [intOf]; omega
        · have hd : ((x.toNat : Int) != (y.toNat : Int)) = true := by
            rw [bne_iff_ne]; intro e; exact hxy (UInt8.toNat_inj.1 (by omega))
          have hfin := hlm.out hxy
          have HF := Lib.hid hfin
          clear hfin hxy
          go_wp2_with fail
          go_quiet (fail)
          go_wp2_with fail
          go_ret
          exact ⟨by rw [HF.out]; rfl, below_next (below_drewN _ _) (below_drewN _ _)⟩
      · have hfin : (l == m) = true := by
          rw [beq_iff_eq]
          have := hr.out
          rw [List.take_of_length_le (by omega), List.take_of_length_le (by have := HL.out; omega)] at this
          exact this
        have HF := Lib.hid hfin
        clear hfin
        go_wp2_with fail
        go_ret
        exact ⟨by rw [HF.out]; rfl, below_drewN _ _⟩
  · have hne : ((l.length : Int) != (m.length : Int)) = true := by rw [bne_iff_ne]; omega
    have hfin : (l == m) = false := by
      rw [beq_eq_false_iff_ne]
      rintro rfl
      exact hlen rfl
    have HF := Lib.hid hfin
    clear hfin hlen
    go_enter Tryd.func17, Tryd.ntmps17
    go_wp2_with fail
    go_ret
    exact ⟨by rw [HF.out]; rfl, Below.refl _ _⟩


set_option maxHeartbeats 400000 in
theorem bytesClone_any (v : Value) (l : List UInt8) (w : World) (h : Bs w v l) (hl : l.length ≤ 100000) :
    Calls Tryd.prog 18 #[v] w fun e w' => ∃ v', e = .returned v' ∧ w'.ownsRow w.heap.size 5 1 v' l.length (byteCells l) ∧ Below w.heap.size w w' := by
  have q : ∀ (w : World) (a : Option Addr) (n c n' c' : Nat), (binOp .eql 22 (.slice a n c) (.slice none n' c')).run Tryd.prog w = .ok (.bool a.isNone) w := fun w a n c n' c' => Lib.run_eql_slice_nil w _ _ a n c n' c' Tryd.underlying22
  obtain ⟨-, ao, cap, rfl, -, -, hn, -⟩ := id h
  cases ao with
  | none =>
    obtain rfl := hn rfl
    obtain rfl : l = [] := by
      obtain ⟨_, ao, cap, e, hc, -⟩ := h
      obtain ⟨-, -, rfl⟩ := Value.slice.inj e
      exact List.eq_nil_of_length_eq_zero (by omega)
    go_enter Tryd.func18, Tryd.ntmps18
    go_wp2_with fail
    go_ret
    exact ⟨_, rfl, World.ownsRow_nil _ _ _ _, Below.refl _ _⟩
  | some a =>
    go_enter Tryd.func18, Tryd.ntmps18
    have hb0 : Below w.heap.size w (w.alloc (.cells #[] 5)) := (Below.refl _ _).alloc (Nat.le_refl _) _
    have hown0 := Lib.hid (World.ownsRow_made (base := w.heap.size) (e := 5) (size := 1) w #[] 0 (Nat.le_refl _) (Nat.zero_le _) rfl)
    go_wp2_with (at_builtin; go_must (refine wpList_append_sl rfl _ _ 22 rfl w.heap.size 5 (.int .u8 0) 1 1 Tryd.underlying22 infoU8 rfl (by decide) _ _ _ rfl hown0.out _ l.length (byteCells l) rfl (h.below hb0) (byteCells_oneCell l) (by unfold maxLen; omega) (by omega) hb0.size ?_))
    intro v2 w2 hown2 hgrow _
    have hbel2 := hb0.grown hgrow hb0.size (ownBlock_ge hown0.out)
    try rw [Nat.zero_add, List.nil_append] at hown2
    have HO2 := Lib.hid hown2
    clear hown2 hgrow
    go_wp2_with fail
    go_ret
    exact ⟨_, rfl, HO2.out, hbel2⟩
end Go.Proofs.YtigahgkjidbhbaaDoor
