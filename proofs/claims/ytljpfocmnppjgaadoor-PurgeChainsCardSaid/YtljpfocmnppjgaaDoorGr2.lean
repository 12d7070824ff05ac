/- What Less and Fits return, both ways. -/
import Derived.Test.YtljpfocmnppjgaaDoorGr
namespace Go.Proofs.YtljpfocmnppjgaaDoor
open Go Go.RowKit

abbrev Gs (w : World) (v : Value) (l : List Gr) : Prop := GR.Ss w v l
theorem Gs.at3 {w : World} {ao : Option Addr} {len cap : Nat} {l : List Gr} (h : Gs w (.slice ao len cap) l) {j : Nat} (hj : j < l.length) :
    ∃ b off, ao = some ⟨b, off, none⟩ ∧ ∀ i (hi : i < l.length), w.cell? ⟨b, off + i * 3, none⟩ = some (.int .i64 l[i].1) ∧ w.cell? ⟨b, off + i * 3 + 1, none⟩ = some (.int .i64 l[i].2.1) ∧ w.cell? ⟨b, off + i * 3 + 2, none⟩ = some (.int .i64 l[i].2.2) := Three.Ss.at h hj

set_option maxHeartbeats 1000000 in
theorem refLess_any (g h : Gr) (w : World) : Calls Tryd.prog 48 #[gv g, gv h] w fun e w' => e = .returned (.bool (L.gless g h)) ∧ Below w.heap.size w w' := by
  have hd := L.gless_eq g h
  obtain ⟨a0, a1, a2⟩ := g
  obtain ⟨b0, b1, b2⟩ := h
  have hb1 := Lib.hid (((Below.refl w.heap.size w).alloc (Nat.le_refl _) (.cells #[.int .i64 a0, .int .i64 a1, .int .i64 a2] 50)).alloc (by simp) (.cells #[.int .i64 b0, .int .i64 b1, .int .i64 b2] 50))
  by_cases h1 : a0 = b0
  · have d1 : (a0 != b0) = false := by simp [h1]
    by_cases h2 : a1 = b1
    · have d2 : (a1 != b1) = false := by simp [h2]
      rw [hd, if_neg (by simp [h1]), if_neg (by simp [h2])]
      clear hd h1 h2
      go_enter Tryd.func48, Tryd.ntmps48
      go_wp2_with fail
      go_ret
      exact ⟨rfl, hb1.out⟩
    · have d2 : (a1 != b1) = true := by simp [h2]
      rw [hd, if_neg (by simp [h1]), if_pos (by simp [h2])]
      clear hd h1 h2
      go_enter Tryd.func48, Tryd.ntmps48
      go_wp2_with fail
      go_ret
      exact ⟨rfl, hb1.out⟩
  · have d1 : (a0 != b0) = true := by simp [h1]
    rw [hd, if_pos (by simp [h1])]
    clear hd h1
    go_enter Tryd.func48, Tryd.ntmps48
    go_wp2_with fail
    go_ret
    exact ⟨rfl, hb1.out⟩

set_option maxHeartbeats 1000000 in
theorem refFits_any (v : Value) (us : List Nat) (g : Gr) (w : World) (hv : Us w v us) (hu : U64s us) :
    Calls Tryd.prog 47 #[v, gv g] w fun e w' => e = .returned (.bool (L.fits us g)) ∧ Below w.heap.size w w' := by
  obtain ⟨ao, cap, rfl, -⟩ := hv.shape
  have hd : L.fits us g = (L.leq us g.2.1 g.1 && L.leq us g.2.2 g.1 && !L.leq us g.2.1 g.2.2) := rfl
  rw [hd]
  obtain ⟨a0, a1, a2⟩ := g
  have hb1 := (Below.refl w.heap.size w).alloc (Nat.le_refl _) (.cells #[.int .i64 a0, .int .i64 a1, .int .i64 a2] 50)
  have HB := Lib.hid hb1
  have HQ := Lib.hid (fun (c d : Int) => refLeq_any _ us c d _ (hv.below hb1) hu)
  clear hd hb1 hv
  have q1 := Lib.hid (HQ.out a1 a0)
  have q2 := Lib.hid (HQ.out a2 a0)
  have q3 := Lib.hid (HQ.out a1 a2)
  clear HQ
  simp only []
  generalize L.leq us a1 a0 = x1 at *
  generalize L.leq us a2 a0 = x2 at *
  generalize L.leq us a1 a2 = x3 at *
  cases x1 with
  | false =>
    go_enter Tryd.func47, Tryd.ntmps47
    go_wp2_with fail
    refine q1.out.mono ?_
    rintro e w' ⟨rfl, rfl⟩
    go_wp2_with fail
    go_ret
    exact ⟨rfl, HB.out⟩
  | true =>
    cases x2 with
    | false =>
      go_enter Tryd.func47, Tryd.ntmps47
      go_wp2_with fail
      refine q1.out.mono ?_
      rintro e w' ⟨rfl, rfl⟩
      go_wp2_with fail
      refine q2.out.mono ?_
      rintro e w' ⟨rfl, rfl⟩
      go_wp2_with fail
      go_ret
      exact ⟨rfl, HB.out⟩
    | true =>
      go_enter Tryd.func47, Tryd.ntmps47
      go_wp2_with fail
      refine q1.out.mono ?_
      rintro e w' ⟨rfl, rfl⟩
      go_wp2_with fail
      refine q2.out.mono ?_
      rintro e w' ⟨rfl, rfl⟩
      go_wp2_with fail
      refine q3.out.mono ?_
      rintro e w' ⟨rfl, rfl⟩
      go_wp2_with fail
      go_ret
      exact ⟨rfl, HB.out⟩

end Go.Proofs.YtljpfocmnppjgaaDoor
