/- What lattice.Check returns. -/
import Derived.Test.YtnfhhhcbgipmcaaDoorClose
import Derived.Test.YtnfhhhcbgipmcaaDoorJoin
import Derived.Test.YtnfhhhcbgipmcaaDoorEq
namespace Go.Proofs.YtnfhhhcbgipmcaaDoor
open Go Go.RowKit

theorem closeOr_us {w : World} {base : Nat} {v : Value} {us : List Nat} (h : w.ownsRow base 25 1 v (L.closeOr us).length (u64Cells (L.closeOr us))) : Us w v (L.closeOr us) := Us.of_owns h

set_option maxRecDepth 4000 in
set_option maxHeartbeats 1000000 in
theorem check_any (v : Value) (us : List Nat) (w : World) (hv : Us w v us) (hu : U64s us) (ht : DTab w) :
    Calls Tryd.prog 23 #[v] w fun e w' => e = .returned (.bool (L.check us)) ∧ Below w.heap.size w w' := by
  obtain ⟨ao, cap, rfl, -⟩ := hv.shape
  have hbig := hv.len
  by_cases h1 : 1 ≤ us.length
  · have d1 : decide ((us.length : Int) < 1) = false := by simp; omega
    by_cases h64 : us.length ≤ 64
    · have d2 : decide ((64 : Int) < (us.length : Int)) = false := by simp; omega
      have HC := Lib.hid (L.check_of h1 h64)
      have HV := Lib.hid hv
      have HU := Lib.hid hu
      have HT := Lib.hid ht
      clear hv hu ht h1
      go_enter Tryd.func23, Tryd.ntmps23
      go_wp2_with fail
      refine (close_any _ us w HV.out HU.out).mono ?_
      rintro e w1 ⟨v1, rfl, hown, hb1⟩
      have HE := Lib.hid (u64Eq_any v1 _ (L.closeOr us) us w1 (closeOr_us hown) (HV.out.below hb1))
      clear hown
      go_wp2_with fail
      refine HE.out.mono ?_
      rintro e w2 ⟨rfl, hb2⟩
      have hbw := below_next hb1 hb2
      cases hce : (L.closeOr us == us) with
      | false =>
        have hfin : Hid (L.check us = false) := by unfold Hid; rw [HC.out, hce]; rfl
        clear hce HE HC hb1 hb2
        go_wp2_with fail
        go_ret
        exact ⟨ret_bool hfin.out.symm, hbw⟩
      | true =>
        have HC1 : Hid (L.check us = L.pairs us) := by unfold Hid; rw [HC.out, hce]; rfl
        clear hce HE HC hb1 hb2
        go_wp2_with fail
        go_loopw [22] (fun i wr => ∃ a : Nat, a ≤ us.length ∧ i = .int .i64 a ∧ Below w.heap.size w wr ∧ Hid (∀ c d, c < a → d < c → L.pairFine us c d = true)) (fun i _ => us.length - (intOf i).toNat)
        case atStart => exact ⟨0, by omega, rfl, hbw, fun c d hc => absurd hc (Nat.not_lt_zero _)⟩
        case round =>
          clear hbw
          obtain ⟨a, ha, rfl, hbr, hall⟩ := hrel
          by_cases hal : a < us.length
          · go_wp2_with fail
            go_loopw [26] (fun i wr => ∃ b : Nat, b ≤ a ∧ i = .int .i64 b ∧ Below w.heap.size w wr ∧ Hid (∀ d, d < b → L.pairFine us a d = true)) (fun i _ => us.length - (intOf i).toNat)
            case atStart => exact ⟨0, by omega, rfl, hbr, fun d hd => absurd hd (Nat.not_lt_zero _)⟩
            case round =>
              clear hbr
              obtain ⟨b, hb, rfl, hbr, hrow⟩ := hrel
              by_cases hbl : b < a
              · have hlt : (b : Int) < (a : Int) := by omega
                have HQ := Lib.hid (fun (c d : Int) (W : World) (hW : Below w.heap.size w W) => leq_any _ us c d W (HV.out.below hW) HU.out)
                have HJ := Lib.hid (fun (W : World) (hW : Below w.heap.size w W) => join_any _ us a b W (HV.out.below hW) HU.out (HT.out.below hW))
                have HM := Lib.hid (fun (W : World) (hW : Below w.heap.size w W) => meet_any _ us a b W (HV.out.below hW) HU.out (HT.out.below hW))
                have hpf : Hid (L.pairFine us a b = !((L.leq us a b && L.leq us b a) || decide (L.join us a b < 0) || decide (L.meet us a b < 0))) := rfl
                have hno : Hid (L.pairFine us a b = false → L.check us = false) := fun h => by rw [HC1.out]; exact L.pairs_false hal hbl h
                have hyes : Hid (L.pairFine us a b = true → ∀ d, d < b + 1 → L.pairFine us a d = true) := fun h d hd => by
                  by_cases e : d = b
                  · subst e; exact h
                  · exact hrow.out d (by omega)
                clear hall hrow
                cases hA : L.leq us a b with
                | false =>
                  have HAB : Hid ((L.leq us a b && L.leq us b a) = false) := by unfold Hid; rw [hA]; rfl
                  have HQ1 := Lib.hid (HQ.out a b _ hbr)
                  rw [hA] at HQ1
                  clear hA
                  go_wp2_with fail
                  refine HQ1.out.mono ?_
                  rintro e w' ⟨rfl, rfl⟩
                  clear HQ1
                  have hpf2 : Hid (L.pairFine us a b = !(decide (L.join us a b < 0) || decide (L.meet us a b < 0))) := by unfold Hid; rw [hpf.out, HAB.out]; rfl
                  clear hpf HAB HQ
                  go_wp2_with fail
                  refine (HJ.out _ hbr).mono ?_
                  rintro e w3 ⟨rfl, hb3⟩
                  replace hbr := below_next hbr hb3
                  clear HJ hb3
                  obtain ⟨j, hj⟩ : ∃ j, L.join us a b = j := ⟨_, rfl⟩
                  rw [hj] at hpf2 ⊢
                  clear hj
                  by_cases hj0 : j < 0
                  · have dj : decide (j < 0) = true := by simp; omega
                    have hfin : Hid (L.check us = false) := hno.out (by rw [hpf2.out, dj]; rfl)
                    clear hpf2 hno hyes HM
                    go_wp2_with fail
                    go_ret
                    exact ⟨ret_bool hfin.out.symm, hbr⟩
                  · have dj : decide (j < 0) = false := by simp; omega
                    have hpf3 : Hid (L.pairFine us a b = !decide (L.meet us a b < 0)) := by unfold Hid; rw [hpf2.out, dj]; rfl
                    clear hpf2
                    go_wp2_with fail
                    refine (HM.out _ hbr).mono ?_
                    rintro e w4 ⟨rfl, hb4⟩
                    replace hbr := below_next hbr hb4
                    clear HM hb4
                    obtain ⟨m, hm⟩ : ∃ m, L.meet us a b = m := ⟨_, rfl⟩
                    rw [hm] at hpf3 ⊢
                    clear hm
                    by_cases hm0 : m < 0
                    · have dm : decide (m < 0) = true := by simp; omega
                      have hfin : Hid (L.check us = false) := hno.out (by rw [hpf3.out, dm]; rfl)
                      clear hpf3 hno hyes
                      go_wp2_with fail
                      go_ret
                      exact ⟨ret_bool hfin.out.symm, hbr⟩
                    · have dm : decide (m < 0) = false := by simp; omega
                      have hnext : Hid (∀ d, d < b + 1 → L.pairFine us a d = true) := hyes.out (by rw [hpf3.out, dm]; rfl)
                      clear hpf3 hno hyes
                      go_wp2_with fail
                      go_roundw
                      case rel => exact ⟨b + 1, by omega, by go_num, hbr, hnext⟩
                      case measure => simp [intOf]; omega
                | true =>
                  have HQ1 := Lib.hid (HQ.out a b _ hbr)
                  have HQ2 := Lib.hid (HQ.out b a _ hbr)
                  rw [hA] at HQ1
                  cases hB : L.leq us b a with
                  | true =>
                    rw [hB] at HQ2
                    have hfin : Hid (L.check us = false) := hno.out (by rw [hpf.out, hA, hB]; rfl)
                    clear hA hB
                    go_wp2_with fail
                    refine HQ1.out.mono ?_
                    rintro e w' ⟨rfl, rfl⟩
                    go_wp2_with fail
                    refine HQ2.out.mono ?_
                    rintro e w' ⟨rfl, rfl⟩
                    clear HQ1 HQ2
                    clear HQ HJ HM hpf hno hyes
                    go_wp2_with fail
                    go_ret
                    exact ⟨ret_bool hfin.out.symm, hbr⟩
                  | false =>
                    rw [hB] at HQ2
                    have HAB : Hid ((L.leq us a b && L.leq us b a) = false) := by unfold Hid; rw [hA, hB]; rfl
                    clear hA hB
                    go_wp2_with fail
                    refine HQ1.out.mono ?_
                    rintro e w' ⟨rfl, rfl⟩
                    go_wp2_with fail
                    refine HQ2.out.mono ?_
                    rintro e w' ⟨rfl, rfl⟩
                    clear HQ1 HQ2
                    have hpf2 : Hid (L.pairFine us a b = !(decide (L.join us a b < 0) || decide (L.meet us a b < 0))) := by unfold Hid; rw [hpf.out, HAB.out]; rfl
                    clear hpf HAB HQ
                    go_wp2_with fail
                    refine (HJ.out _ hbr).mono ?_
                    rintro e w3 ⟨rfl, hb3⟩
                    replace hbr := below_next hbr hb3
                    clear HJ hb3
                    obtain ⟨j, hj⟩ : ∃ j, L.join us a b = j := ⟨_, rfl⟩
                    rw [hj] at hpf2 ⊢
                    clear hj
                    by_cases hj0 : j < 0
                    · have dj : decide (j < 0) = true := by simp; omega
                      have hfin : Hid (L.check us = false) := hno.out (by rw [hpf2.out, dj]; rfl)
                      clear hpf2 hno hyes HM
                      go_wp2_with fail
                      go_ret
                      exact ⟨ret_bool hfin.out.symm, hbr⟩
                    · have dj : decide (j < 0) = false := by simp; omega
                      have hpf3 : Hid (L.pairFine us a b = !decide (L.meet us a b < 0)) := by unfold Hid; rw [hpf2.out, dj]; rfl
                      clear hpf2
                      go_wp2_with fail
                      refine (HM.out _ hbr).mono ?_
                      rintro e w4 ⟨rfl, hb4⟩
                      replace hbr := below_next hbr hb4
                      clear HM hb4
                      obtain ⟨m, hm⟩ : ∃ m, L.meet us a b = m := ⟨_, rfl⟩
                      rw [hm] at hpf3 ⊢
                      clear hm
                      by_cases hm0 : m < 0
                      · have dm : decide (m < 0) = true := by simp; omega
                        have hfin : Hid (L.check us = false) := hno.out (by rw [hpf3.out, dm]; rfl)
                        clear hpf3 hno hyes
                        go_wp2_with fail
                        go_ret
                        exact ⟨ret_bool hfin.out.symm, hbr⟩
                      · have dm : decide (m < 0) = false := by simp; omega
                        have hnext : Hid (∀ d, d < b + 1 → L.pairFine us a d = true) := hyes.out (by rw [hpf3.out, dm]; rfl)
                        clear hpf3 hno hyes
                        go_wp2_with fail
                        go_roundw
                        case rel => exact ⟨b + 1, by omega, by go_num, hbr, hnext⟩
                        case measure => simp [intOf]; omega
              · obtain rfl : b = a := by omega
                have hnext : Hid (∀ c d, c < b + 1 → d < c → L.pairFine us c d = true) := fun c d hc hd => by
                  by_cases e : c = b
                  · subst e; exact hrow.out d hd
                  · exact hall.out c d (by omega) hd
                clear hall hrow hbl hb
                go_wp2_with fail
                go_roundw
                case rel => exact ⟨b + 1, by omega, by go_num, hbr, hnext⟩
                case measure => simp [intOf]; omega
          · obtain rfl : a = us.length := by omega
            have hfin : Hid (L.check us = true) := by unfold Hid; rw [HC1.out]; exact L.pairs_true hall.out
            clear hall hal ha
            go_wp2_with fail
            go_ret
            exact ⟨ret_bool hfin.out.symm, hbr⟩
    · have d2 : decide ((64 : Int) < (us.length : Int)) = true := by simp; omega
      have hfin := Lib.hid (L.check_size (us := us) fun h => h64 h.2)
      clear h1 h64 hv hu ht
      go_enter Tryd.func23, Tryd.ntmps23
      go_wp2_with fail
      go_ret
      exact ⟨ret_bool hfin.out.symm, Below.refl _ _⟩
  · have d1 : decide ((us.length : Int) < 1) = true := by simp; omega
    have hfin := Lib.hid (L.check_size (us := us) fun h => h1 h.1)
    clear h1 hv hu ht
    go_enter Tryd.func23, Tryd.ntmps23
    go_wp2_with fail
    go_ret
    exact ⟨ret_bool hfin.out.symm, Below.refl _ _⟩
end Go.Proofs.YtnfhhhcbgipmcaaDoor
