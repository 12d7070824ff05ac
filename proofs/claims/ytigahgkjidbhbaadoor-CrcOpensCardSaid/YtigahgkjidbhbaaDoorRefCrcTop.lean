/- What the reference's Of, Tag and Open return. -/
import Derived.Test.YtigahgkjidbhbaaDoorRefNum
import Derived.Test.YtigahgkjidbhbaaDoorCrcTag
namespace Go.Proofs.YtigahgkjidbhbaaDoor
open Go Go.RowKit

theorem refOf_any (l : List UInt8) (hl : l.length ≤ 100000) (w : World) :
    Calls Tryd.prog 12 #[.string (str l)] w fun e w' => e = .returned (.int .u32 (C.of l : Nat)) ∧ w = w' := by
  have h := refOn_any 0 (by decide) l hl w
  rw [show ((0 : Nat) : Int) = 0 from rfl] at h
  have H := Lib.hid h
  clear h
  go_enter Tryd.func12, Tryd.ntmps12
  go_wp2_with fail
  refine H.out.mono ?_
  rintro e w' ⟨rfl, rfl⟩
  go_wp2_with fail
  go_ret
  exact ⟨rfl, rfl⟩

set_option maxHeartbeats 400000 in
theorem refTag_any (l : List UInt8) (hl : l.length ≤ 100000) (w : World) :
    Calls Tryd.prog 16 #[.string (str l)] w fun e w' => e = .returned (.string (str (C.tag l))) ∧ Below w.heap.size w w' := by
  have hof := C.of_lt l
  have hn := refNum_any (C.of l) 4 (by omega) (by decide) (by decide)
  simp only [show ((4 : Nat) : Int) = 4 from rfl] at hn
  have HN := Lib.hid hn
  clear hn
  have hadd : str (be 4 (C.of l)) ++ str l = str (C.tag l) := by rw [str_append, be4]; rfl
  have hsz : (str (be 4 (C.of l))).size = 4 := by rw [str_size, be_length]
  have hsz2 : (str l).size ≤ 100000 := by rw [str_size]; exact hl
  go_enter Tryd.func16, Tryd.ntmps16
  go_wp2_with fail
  refine (refOf_any l hl w).mono ?_
  rintro e w' ⟨rfl, rfl⟩
  go_wp2_with fail
  refine (HN.out w).mono ?_
  rintro e w1 ⟨rfl, hb⟩
  go_wp2_with fail
  go_ret
  exact ⟨rfl, hb⟩

theorem str_drop (l : List UInt8) (k : Nat) : (str l).extract k (str l).size = str (l.drop k) := by
  rw [str_size]
  unfold str
  apply ByteArray.ext
  simp [List.take_of_length_le]

set_option maxHeartbeats 400000 in
theorem refOpen_any (l : List UInt8) (hl : l.length ≤ 50000) (w : World) :
    Calls Tryd.prog 10 #[.string (str l)] w fun e w' => e = .returned (.tuple #[.string (str (C.opened l)), .bool (C.isTag l)]) ∧ Below w.heap.size w w' := by
  have hsz := str_size l
  by_cases h4 : l.length < 4
  · have e1 : C.isTag l = false := by unfold C.isTag; rw [decide_eq_false (by omega)]; rfl
    have e2 : C.opened l = [] := by unfold C.opened; rw [e1]; rfl
    rw [e1, e2]
    clear e1 e2
    have hd : decide ((l.length : Int) < 4) = true := by simp; omega
    clear hsz
    go_enter Tryd.func10, Tryd.ntmps10
    go_wp2_with fail
    go_ret2
    exact ⟨rfl, Below.refl _ _⟩
  · have hd : decide ((l.length : Int) < 4) = false := by simp; omega
    have hlen : (l.drop 4).length = l.length - 4 := List.length_drop
    have HX := Lib.hid hlen
    have h5 : 4 ≤ (l.length : Int) := by omega
    clear hlen h4
    have hx := str_drop l 4
    rw [hsz] at hx
    have ht4 := Lib.hid (refTag_any (l.drop 4) (by rw [HX.out]; omega))
    have hT : Hid (C.isTag l = (C.tag (l.drop 4) == l)) := by unfold Hid C.isTag; rw [decide_eq_true (by omega)]; rfl
    have hD : Hid (C.isTag l = true → C.opened l = l.drop 4) := fun h => by rw [C.opened, if_pos h]
    have hD' : Hid (C.isTag l = false → C.opened l = []) := fun h => by rw [C.opened, h]; rfl
    cases hc : (C.tag (l.drop 4) == l) with
    | false =>
      have hT' := hD'.out (hT.out.trans hc)
      have hT2 := hT.out.trans hc
      have HT' := Lib.hid hT'
      have HT2 := Lib.hid hT2
      clear hT' hT2 hT hD hD'
      go_enter Tryd.func10, Tryd.ntmps10
      go_wp2_with fail
      refine (ht4.out w).mono ?_
      rintro e w1 ⟨rfl, hbel⟩
      go_wp2_with fail
      go_ret2
      exact ⟨by rw [HT2.out, HT'.out]; rfl, hbel⟩
    | true =>
      have hT' := hD.out (hT.out.trans hc)
      have hT2 := hT.out.trans hc
      have HT' := Lib.hid hT'
      have HT2 := Lib.hid hT2
      clear hT' hT2 hT hD hD'
      go_enter Tryd.func10, Tryd.ntmps10
      go_wp2_with fail
      refine (ht4.out w).mono ?_
      rintro e w1 ⟨rfl, hbel⟩
      go_wp2_with fail
      go_ret2
      exact ⟨by rw [HT2.out, HT'.out]; rfl, hbel⟩
end Go.Proofs.YtigahgkjidbhbaaDoor
