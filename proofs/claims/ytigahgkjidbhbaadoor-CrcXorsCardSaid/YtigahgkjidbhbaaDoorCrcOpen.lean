/- What crc.Open returns. -/
import Derived.Test.YtigahgkjidbhbaaDoorCrcTag
import Derived.Test.YtigahgkjidbhbaaDoorBytesEq
namespace Go.Proofs.YtigahgkjidbhbaaDoor
open Go Go.RowKit

theorem Bs.of_owns {w : World} {base e n : Nat} {v : Value} {l : List UInt8} (h : w.ownsRow base e 1 v n (byteCells l)) : Bs w v l := by
  have := Sl.of_owns h
  have e : n = l.length := by have h1 := h.1; rw [byteCells_length] at h1; omega
  subst e
  exact this

set_option maxHeartbeats 400000 in
theorem open_any (v : Value) (l : List UInt8) (w : World) (hb : Bs w v l) (ht : Tab w) (hl : l.length ≤ 50000) :
    Calls Tryd.prog 9 #[v] w fun e w' => ∃ v', e = .returned (.tuple #[v', .bool (C.isTag l)]) ∧ Bs w' v' (C.opened l) ∧ Below w.heap.size w w' := by
  obtain ⟨-, ao, cap, rfl, hlc, -, -, -⟩ := id hb
  by_cases h4 : l.length < 4
  · have e1 : C.isTag l = false := by unfold C.isTag; rw [decide_eq_false (by omega)]; rfl
    have e2 : C.opened l = [] := by unfold C.opened; rw [e1]; rfl
    rw [e1, e2]
    clear e1 e2
    have hd : decide ((l.length : Int) < 4) = true := by simp; omega
    go_enter Tryd.func9, Tryd.ntmps9
    go_wp2_with fail
    go_ret2
    exact ⟨_, rfl, Bs.nil _, Below.refl _ _⟩
  · have hd : decide ((l.length : Int) < 4) = false := by simp; omega
    obtain ⟨v4, hb4, hrun⟩ := run_bdrop (P := Tryd.prog) Tryd.underlying22 infoU8 hb .i64 4 (by omega)
    rw [show ((4 : Nat) : Int) = 4 from rfl] at hrun
    have hlen : (l.drop 4).length = l.length - 4 := List.length_drop
    have HX := Lib.hid hlen
    clear hlen
    have ht4 := Lib.hid (tag_any v4 (l.drop 4) w hb4 ht (by rw [HX.out]; omega))
    have hT : Hid (C.isTag l = (C.tag (l.drop 4) == l)) := by unfold Hid C.isTag; rw [decide_eq_true (by omega)]; rfl
    have hD : Hid (C.isTag l = true → C.opened l = l.drop 4) := fun h => by rw [C.opened, if_pos h]
    have hD' : Hid (C.isTag l = false → C.opened l = []) := fun h => by rw [C.opened, h]; rfl
    go_enter Tryd.func9, Tryd.ntmps9
    go_wp2_with fail
    refine ht4.out.mono ?_
    rintro e w1 ⟨vt, rfl, hown, hbel⟩
    have HB := Bs.of_owns hown
    clear hown
    go_wp2_with fail
    refine (bytesEq_any vt _ _ l w1 HB (hb.below hbel)).mono ?_
    rintro e w2 ⟨rfl, hbel2⟩
    have hbel3 := below_next hbel hbel2
    have hb5 := hb4.below hbel3
    clear hbel hbel2 ht4 HB
    cases hc : (C.tag (l.drop 4) == l) with
    | false =>
      have hT' := hD'.out (hT.out.trans hc)
      have hT2 := hT.out.trans hc
      have HT' := Lib.hid hT'
      have HT2 := Lib.hid hT2
      clear hT' hT2 hc hT hD hD'
      go_wp2_with fail
      go_ret2
      exact ⟨_, by rw [HT2.out]; rfl, by rw [HT'.out]; exact Bs.nil _, hbel3⟩
    | true =>
      have hT' := hD.out (hT.out.trans hc)
      have hT2 := hT.out.trans hc
      have HT' := Lib.hid hT'
      have HT2 := Lib.hid hT2
      clear hT' hT2 hc hT hD hD'
      go_wp2_with fail
      refine (bytesClone_any v4 _ w2 hb5 (by rw [HX.out]; omega)).mono ?_
      rintro e w3 ⟨v5, rfl, hown, hbel4⟩
      have HB := Bs.of_owns hown
      clear hown
      go_wp2_with fail
      go_ret2
      exact ⟨_, by rw [HT2.out]; rfl, by rw [HT'.out]; exact HB, below_next hbel3 hbel4⟩
end Go.Proofs.YtigahgkjidbhbaaDoor
