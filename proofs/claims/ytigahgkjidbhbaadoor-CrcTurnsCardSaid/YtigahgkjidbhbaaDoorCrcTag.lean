/- What crc.Tag, slices.Equal and slices.Clone at bytes, and crc.Open return. -/
import Derived.Test.YtigahgkjidbhbaaDoorCrcOn
import Derived.Test.YtigahgkjidbhbaaDoorOctetNum
import Derived.BigQuiet
import Derived.Deep.QuietTactic
namespace Go.Proofs.YtigahgkjidbhbaaDoor
open Go Go.RowKit

theorem be4 (x : Nat) : be 4 x = C.num4 x := by simp [be, C.num4]

set_option maxHeartbeats 400000 in
theorem tag_any (v : Value) (l : List UInt8) (w : World) (hb : Bs w v l) (ht : Tab w) (hl : l.length ≤ 100000) :
    Calls Tryd.prog 15 #[v] w fun e w' => ∃ v', e = .returned v' ∧ w'.ownsRow w.heap.size 5 1 v' (4 + l.length) (byteCells (C.tag l)) ∧ Below w.heap.size w w' := by
  have hof := C.of_lt l
  have hn := num_any (C.of l) 4 (by omega) (by decide) (by decide) w
  rw [show ((4 : Nat) : Int) = 4 from rfl] at hn
  have HN := Lib.hid hn
  clear hn
  go_enter Tryd.func15, Tryd.ntmps15
  go_wp2_with fail
  refine (of_any v l w hb ht).mono ?_
  rintro e w' ⟨rfl, rfl⟩
  go_wp2_with fail
  refine HN.out.mono ?_
  rintro e w1 ⟨v1, rfl, hown, hbel⟩
  have HO := Lib.hid hown
  clear hown
  go_wp2_with (at_builtin; go_must (refine wpList_append_sl rfl _ _ 22 rfl w.heap.size 5 (.int .u8 0) 1 1 Tryd.underlying22 infoU8 rfl (by decide) _ _ _ rfl HO.out v l.length (byteCells l) rfl (hb.below hbel) (byteCells_oneCell l) (by unfold maxLen; omega) (by omega) hbel.size ?_))
  intro v2 w2 hown2 hgrow _
  have hbel2 := hbel.grown hgrow hbel.size (ownBlock_ge HO.out)
  rw [byteCells_append, be4] at hown2
  have HO2 := Lib.hid hown2
  clear hown2 hgrow
  go_wp2_with fail
  go_ret
  exact ⟨_, rfl, HO2.out, hbel2⟩
end Go.Proofs.YtigahgkjidbhbaaDoor
