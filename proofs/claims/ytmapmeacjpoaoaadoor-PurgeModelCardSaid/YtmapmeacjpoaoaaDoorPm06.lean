/- What jalousieref03.Check returns. What the two Checks of a row of grants return. What the reference's Check of a row of grants returns. What the reference's Check of a configuration, and small return. A configuration, and operations, among the arguments of a row. What cmp.Compare returns at strings. Rows of the store as values, and what the reference's Same returns. -/
import Derived.Test.YtmapmeacjpoaoaaDoorPm05
import Derived.Laws.Cover1
import Derived.Test.YtmapmeacjpoaoaaDoorRows
import Derived.BigQuiet
import Derived.Laws.StructEq
import Derived.Deep.QuietTactic
namespace Go.Proofs.YtmapmeacjpoaoaaDoor
open Go Go.RowKit

set_option maxRecDepth 4000 in
set_option maxHeartbeats 1000000 in
theorem refCheck_any (v : Value) (us : List Nat) (w : World) (hv : Us w v us) (hu : U64s us) :
    Calls Tryd.prog 38 #[v] w fun e w' => e = .returned (.bool (L.check us)) ∧ Below w.heap.size w w' := by
  obtain ⟨ao, cap, rfl, -⟩ := hv.shape
  have hbig := hv.len
  by_cases h1 : 1 ≤ us.length
  · have d1 : decide ((us.length : Int) < 1) = false := by simp; omega
    by_cases h64 : us.length ≤ 64
    · have d2 : decide ((64 : Int) < (us.length : Int)) = false := by simp; omega
      have HV := Lib.hid hv
      have HU := Lib.hid hu
      have HU2 : Hid (∀ a, us.getD a 0 < 2 ^ 64) := fun a => hu.getD a
      have H1 := Lib.hid h1
      have H64 := Lib.hid h64
      clear hv hu h1
      go_enter Tryd.func38, Tryd.ntmps38
      go_wp2_with fail
      go_loop [3] (fun i => ∃ a : Nat, a ≤ us.length ∧ i = .int .i64 a ∧ Hid (∀ c d, c < a → d < 64 → L.rowFine us c d = true ∧ ∀ e, e < us.length → L.onFine us c d e = true)) (fun i => us.length - (intOf i).toNat)
      case atStart => exact ⟨0, by omega, rfl, fun c d hc => absurd hc (Nat.not_lt_zero _)⟩
      case round =>
        obtain ⟨a, ha, rfl, hall⟩ := hrel
        by_cases hal : a < us.length
        · go_wp2_with fail
          go_loop [4] (fun i => ∃ b : Nat, b ≤ 64 ∧ i = .int .i64 b ∧ Hid (∀ d, d < b → L.rowFine us a d = true ∧ ∀ e, e < us.length → L.onFine us a d e = true)) (fun i => 64 - (intOf i).toNat)
          case atStart => exact ⟨0, by omega, rfl, fun d hd => absurd hd (Nat.not_lt_zero _)⟩
          case round =>
            obtain ⟨b, hb, rfl, hrow⟩ := hrel
            by_cases hbl : b < 64
            · obtain ⟨bk, off, rfl, hcu⟩ := HV.out.at hal
              have hcx := hcu a hal
              have hxl := HU.out.getD a
              have hia : (a : Int) < (us.length : Int) := by omega
              have HB := Lib.hid (fun (c : Nat) (hc : c ≤ 64) => refBit_any (us.getD a 0) c hxl hc w)
              have hrf : Hid (L.rowFine us a b = !((L.bit us a b && decide (us.length ≤ b)) || ((a == b) && !L.bit us a b) || (L.bit us a b && !(a == b) && L.bit us b a))) := rfl
              have hnor : Hid (L.rowFine us a b = false → L.check us = false) := L.check_no_row hal
              have hnoo : Hid (∀ c, c < us.length → L.onFine us a b c = false → L.check us = false) := fun c hc => L.check_no_on hal hc
              have hof : Hid (∀ c, L.onFine us a b c = (!L.bit us a b || !L.bit us b c || L.bit us a c)) := fun c => rfl
              have hnext : Hid (L.rowFine us a b = true → (∀ e, e < us.length → L.onFine us a b e = true) → ∀ d, d < b + 1 → L.rowFine us a d = true ∧ ∀ e, e < us.length → L.onFine us a d e = true) := fun h1 h2 d hd => by
                by_cases e : d = b
                · subst e; exact ⟨h1, h2⟩
                · exact hrow.out d (by omega)
              obtain ⟨x, hx⟩ : ∃ x, us.getD a 0 = x := ⟨_, rfl⟩
              have hxb : Hid (∀ c, L.bit us a c = x.testBit c) := fun c => by unfold L.bit; rw [hx]
              rw [hx] at hcx hxl HB
              have HB1 := Lib.hid (HB.out b (by omega))
              clear hall hrow hx
              cases hto : x.testBit b with
              | false =>
                rw [hto] at HB1
                clear hcu
                by_cases hab : a = b
                · have hfin : Hid (L.check us = false) := hnor.out (by rw [hrf.out, hxb.out b, hto, show (a == b) = true by simp [hab]]; cases L.bit us b a <;> simp)
                  have de : ((a : Int) == (b : Int)) = true := by rw [beq_iff_eq]; omega
                  clear hnor hnoo hof hnext hrf hxb hto hab HB
                  go_wp2_with fail
                  refine HB1.out.mono ?_
                  rintro e w' ⟨rfl, rfl⟩
                  go_wp2_with fail
                  go_ret
                  exact ⟨ret_bool hfin.out.symm, Below.refl _ _⟩
                · have de : ((a : Int) == (b : Int)) = false := by rw [beq_eq_false_iff_ne]; omega
                  have hn2 : Hid (∀ d, d < b + 1 → L.rowFine us a d = true ∧ ∀ e, e < us.length → L.onFine us a d e = true) := hnext.out (by rw [hrf.out, hxb.out b, hto, show (a == b) = false by simp [hab]]; simp) (fun e _ => by rw [hof.out, hxb.out b, hto]; rfl)
                  clear hnor hnoo hof hnext hrf hxb hto hab HB
                  go_wp2_with fail
                  refine HB1.out.mono ?_
                  rintro e w' ⟨rfl, rfl⟩
                  go_wp2_with fail
                  go_loop [6] (fun i => i = .int .i64 0) (fun i => (intOf i).toNat)
                  case atStart => rfl
                  case round =>
                    obtain rfl := hrel
                    go_wp2_with fail
                    go_round
                    case rel => exact ⟨b + 1, by omega, by go_num, hn2⟩
                    case measure => simp [intOf]; omega
              | true =>
                rw [hto] at HB1
                by_cases hbn : b < us.length
                · have dn : decide ((us.length : Int) ≤ (b : Int)) = false := by simp; omega
                  have hib : (b : Int) < (us.length : Int) := by omega
                  have dnn : decide (us.length ≤ b) = false := by simp; omega
                  have hcy := hcu b hbn
                  have hyl := HU.out.getD b
                  have HY := Lib.hid (fun (c : Nat) (hc : c ≤ 64) => refBit_any (us.getD b 0) c hyl hc w)
                  obtain ⟨y, hy⟩ : ∃ y, us.getD b 0 = y := ⟨_, rfl⟩
                  have hyb : Hid (∀ c, L.bit us b c = y.testBit c) := fun c => by unfold L.bit; rw [hy]
                  rw [hy] at hcy hyl HY
                  have hrf2 : Hid (L.rowFine us a b = !(!(a == b) && y.testBit a)) := by
                    unfold Hid; rw [hrf.out, hxb.out b, hyb.out a, hto, dnn]; cases (a == b) <;> simp
                  have HYA := Lib.hid (HY.out a (by have := H64.out; omega))
                  replace hto := Lib.hid hto
                  clear hcu hy hrf
                  by_cases hab : a = b
                  · have de : ((a : Int) == (b : Int)) = true := by rw [beq_iff_eq]; omega
                    have dn2 : ((a : Int) != (b : Int)) = false := by rw [bne_eq_false_iff_eq]; omega
                    have hrt : Hid (L.rowFine us a b = true) := by unfold Hid; rw [hrf2.out, show (a == b) = true by simp [hab]]; rfl
                    clear hrf2 hab HYA hnor
                    go_wp2_with fail
                    refine HB1.out.mono ?_
                    rintro e w' ⟨rfl, rfl⟩
                    clear HB1
                    go_wp2_with fail
                    go_loopw [6] (fun i wr => ∃ c : Nat, c ≤ us.length ∧ i = .int .i64 c ∧ wr = w ∧ Hid (∀ e, e < c → L.onFine us a b e = true)) (fun i _ => us.length - (intOf i).toNat)
                    case atStart => exact ⟨0, by omega, rfl, rfl, fun e he => absurd he (Nat.not_lt_zero _)⟩
                    case round =>
                      obtain ⟨c, hc, rfl, rfl, hon⟩ := hrel
                      by_cases hcl : c < us.length
                      · have HY1 := Lib.hid (HY.out c (by omega))
                        have HB2 := Lib.hid (HB.out c (by omega))
                        have hofc : Hid (L.onFine us a b c = (!y.testBit c || x.testBit c)) := by unfold Hid; rw [hof.out, hxb.out b, hyb.out c, hxb.out c, hto.out]; rfl
                        have hnc : Hid (L.onFine us a b c = true → ∀ e, e < c + 1 → L.onFine us a b e = true) := fun h e he => by
                          by_cases q : e = c
                          · subst q; exact h
                          · exact hon.out e (by omega)
                        have hnoc : Hid (L.onFine us a b c = false → L.check us = false) := hnoo.out c hcl
                        clear hon
                        cases hyc : y.testBit c with
                        | false =>
                          rw [hyc] at HY1
                          have hn3 : Hid (∀ e, e < c + 1 → L.onFine us a b e = true) := hnc.out (by rw [hofc.out, hyc]; rfl)
                          clear hyc hofc hnc hnoc HB2
                          go_wp2_with fail
                          refine HY1.out.mono ?_
                          rintro e w' ⟨rfl, rfl⟩
                          go_wp2_with fail
                          go_roundw
                          case rel => exact ⟨c + 1, by omega, by go_num, trivial, hn3⟩
                          case measure => simp [intOf]; omega
                        | true =>
                          rw [hyc] at HY1
                          cases hxc : x.testBit c with
                          | true =>
                            rw [hxc] at HB2
                            have hn3 : Hid (∀ e, e < c + 1 → L.onFine us a b e = true) := hnc.out (by rw [hofc.out, hxc]; simp)
                            clear hyc hxc hofc hnc hnoc
                            go_wp2_with fail
                            refine HY1.out.mono ?_
                            rintro e w' ⟨rfl, rfl⟩
                            go_wp2_with fail
                            refine HB2.out.mono ?_
                            rintro e w' ⟨rfl, rfl⟩
                            go_wp2_with fail
                            go_roundw
                            case rel => exact ⟨c + 1, by omega, by go_num, trivial, hn3⟩
                            case measure => simp [intOf]; omega
                          | false =>
                            rw [hxc] at HB2
                            have hfin : Hid (L.check us = false) := hnoc.out (by rw [hofc.out, hyc, hxc]; rfl)
                            clear hyc hxc hofc hnc hnoc
                            go_wp2_with fail
                            refine HY1.out.mono ?_
                            rintro e w' ⟨rfl, rfl⟩
                            go_wp2_with fail
                            refine HB2.out.mono ?_
                            rintro e w' ⟨rfl, rfl⟩
                            go_wp2_with fail
                            go_ret
                            exact ⟨ret_bool hfin.out.symm, Below.refl _ _⟩
                      · have hn2 : Hid (∀ d, d < b + 1 → L.rowFine us a d = true ∧ ∀ e, e < us.length → L.onFine us a d e = true) := hnext.out hrt.out (fun e he => hon.out e (by omega))
                        obtain rfl : c = us.length := by omega
                        clear hon hcl hc hnext hnoo hof
                        go_wp2_with fail
                        go_round
                        case rel => exact ⟨b + 1, by omega, by go_num, hn2⟩
                        case measure => simp [intOf]; omega
                  · have de : ((a : Int) == (b : Int)) = false := by rw [beq_eq_false_iff_ne]; omega
                    have dn2 : ((a : Int) != (b : Int)) = true := by rw [bne_iff_ne]; omega
                    rw [show (a == b) = false by simp [hab], Bool.not_false, Bool.true_and] at hrf2
                    clear hab
                    cases hya : y.testBit a with
                    | true =>
                      rw [hya] at HYA hrf2
                      have hfin : Hid (L.check us = false) := hnor.out hrf2.out
                      clear hya hrf2 hnor hnoo hof hnext hto hxb hyb HY HB
                      go_wp2_with fail
                      refine HB1.out.mono ?_
                      rintro e w' ⟨rfl, rfl⟩
                      go_wp2_with fail
                      refine HYA.out.mono ?_
                      rintro e w' ⟨rfl, rfl⟩
                      go_wp2_with fail
                      go_ret
                      exact ⟨ret_bool hfin.out.symm, Below.refl _ _⟩
                    | false =>
                      rw [hya] at HYA hrf2
                      have hrt : Hid (L.rowFine us a b = true) := hrf2.out
                      clear hya hrf2 hnor
                      go_wp2_with fail
                      refine HB1.out.mono ?_
                      rintro e w' ⟨rfl, rfl⟩
                      go_wp2_with fail
                      refine HYA.out.mono ?_
                      rintro e w' ⟨rfl, rfl⟩
                      clear HB1 HYA
                      go_wp2_with fail
                      go_loopw [6] (fun i wr => ∃ c : Nat, c ≤ us.length ∧ i = .int .i64 c ∧ wr = w ∧ Hid (∀ e, e < c → L.onFine us a b e = true)) (fun i _ => us.length - (intOf i).toNat)
                      case atStart => exact ⟨0, by omega, rfl, rfl, fun e he => absurd he (Nat.not_lt_zero _)⟩
                      case round =>
                        obtain ⟨c, hc, rfl, rfl, hon⟩ := hrel
                        by_cases hcl : c < us.length
                        · have HY1 := Lib.hid (HY.out c (by omega))
                          have HB2 := Lib.hid (HB.out c (by omega))
                          have hofc : Hid (L.onFine us a b c = (!y.testBit c || x.testBit c)) := by unfold Hid; rw [hof.out, hxb.out b, hyb.out c, hxb.out c, hto.out]; rfl
                          have hnc : Hid (L.onFine us a b c = true → ∀ e, e < c + 1 → L.onFine us a b e = true) := fun h e he => by
                            by_cases q : e = c
                            · subst q; exact h
                            · exact hon.out e (by omega)
                          have hnoc : Hid (L.onFine us a b c = false → L.check us = false) := hnoo.out c hcl
                          clear hon
                          cases hyc : y.testBit c with
                          | false =>
                            rw [hyc] at HY1
                            have hn3 : Hid (∀ e, e < c + 1 → L.onFine us a b e = true) := hnc.out (by rw [hofc.out, hyc]; rfl)
                            clear hyc hofc hnc hnoc HB2
                            go_wp2_with fail
                            refine HY1.out.mono ?_
                            rintro e w' ⟨rfl, rfl⟩
                            go_wp2_with fail
                            go_roundw
                            case rel => exact ⟨c + 1, by omega, by go_num, trivial, hn3⟩
                            case measure => simp [intOf]; omega
                          | true =>
                            rw [hyc] at HY1
                            cases hxc : x.testBit c with
                            | true =>
                              rw [hxc] at HB2
                              have hn3 : Hid (∀ e, e < c + 1 → L.onFine us a b e = true) := hnc.out (by rw [hofc.out, hxc]; simp)
                              clear hyc hxc hofc hnc hnoc
                              go_wp2_with fail
                              refine HY1.out.mono ?_
                              rintro e w' ⟨rfl, rfl⟩
                              go_wp2_with fail
                              refine HB2.out.mono ?_
                              rintro e w' ⟨rfl, rfl⟩
                              go_wp2_with fail
                              go_roundw
                              case rel => exact ⟨c + 1, by omega, by go_num, trivial, hn3⟩
                              case measure => simp [intOf]; omega
                            | false =>
                              rw [hxc] at HB2
                              have hfin : Hid (L.check us = false) := hnoc.out (by rw [hofc.out, hyc, hxc]; rfl)
                              clear hyc hxc hofc hnc hnoc
                              go_wp2_with fail
                              refine HY1.out.mono ?_
                              rintro e w' ⟨rfl, rfl⟩
                              go_wp2_with fail
                              refine HB2.out.mono ?_
                              rintro e w' ⟨rfl, rfl⟩
                              go_wp2_with fail
                              go_ret
                              exact ⟨ret_bool hfin.out.symm, Below.refl _ _⟩
                        · have hn2 : Hid (∀ d, d < b + 1 → L.rowFine us a d = true ∧ ∀ e, e < us.length → L.onFine us a d e = true) := hnext.out hrt.out (fun e he => hon.out e (by omega))
                          obtain rfl : c = us.length := by omega
                          clear hon hcl hc hnext hnoo hof
                          go_wp2_with fail
                          go_round
                          case rel => exact ⟨b + 1, by omega, by go_num, hn2⟩
                          case measure => simp [intOf]; omega
                · have dn : decide ((us.length : Int) ≤ (b : Int)) = true := by simp; omega
                  have dnn : decide (us.length ≤ b) = true := by simp; omega
                  have hfin : Hid (L.check us = false) := hnor.out (by rw [hrf.out, hxb.out b, hto, dnn]; rfl)
                  clear hnor hnoo hof hnext hrf hxb hto HB hcu
                  go_wp2_with fail
                  refine HB1.out.mono ?_
                  rintro e w' ⟨rfl, rfl⟩
                  go_wp2_with fail
                  go_ret
                  exact ⟨ret_bool hfin.out.symm, Below.refl _ _⟩
            · obtain rfl : b = 64 := by omega
              have hn2 : Hid (∀ c d, c < a + 1 → d < 64 → L.rowFine us c d = true ∧ ∀ e, e < us.length → L.onFine us c d e = true) := fun c d hc hd => by
                by_cases e : c = a
                · subst e; exact hrow.out d hd
                · exact hall.out c d (by omega) hd
              clear hall hrow hbl hb
              go_wp2_with fail
              go_round
              case rel => exact ⟨a + 1, by omega, by go_num, hn2⟩
              case measure => simp [intOf]; omega
        · obtain rfl : a = us.length := by omega
          have hyes : Hid ((∀ c d, c < us.length → d < c → L.bounded us c d = true) → L.check us = true) := fun h => L.check_yes HU2.out H1.out H64.out (fun c d hc hd => (hall.out c d hc hd).1) (fun c d e hc hd he => (hall.out c d hc hd).2 e he) h
          clear hall hal ha
          go_wp2_with fail
          go_loopw [8] (fun i wr => ∃ a : Nat, a ≤ us.length ∧ i = .int .i64 a ∧ Below w.heap.size w wr ∧ Hid (∀ c d, c < a → d < c → L.bounded us c d = true)) (fun i _ => us.length - (intOf i).toNat)
          case atStart => exact ⟨0, by omega, rfl, Below.refl _ _, fun c d hc => absurd hc (Nat.not_lt_zero _)⟩
          case round =>
            obtain ⟨a, ha, rfl, hbr, hall⟩ := hrel
            by_cases hal : a < us.length
            · go_wp2_with fail
              go_loopw [9] (fun i wr => ∃ b : Nat, b ≤ a ∧ i = .int .i64 b ∧ Below w.heap.size w wr ∧ Hid (∀ d, d < b → L.bounded us a d = true)) (fun i _ => us.length - (intOf i).toNat)
              case atStart => exact ⟨0, by omega, rfl, hbr, fun d hd => absurd hd (Nat.not_lt_zero _)⟩
              case round =>
                clear hbr
                obtain ⟨b, hb, rfl, hbr, hrow⟩ := hrel
                by_cases hbl : b < a
                · have hlt : (b : Int) < (a : Int) := by omega
                  have HJ := Lib.hid (refJoin_any _ us a b _ (HV.out.below hbr) HU.out)
                  have HM := Lib.hid (refMeet_any _ us a b _ (HV.out.below hbr) HU.out)
                  have hpf : Hid (L.bounded us a b = !(decide (L.join us a b < 0) || decide (L.meet us a b < 0))) := rfl
                  have hno : Hid (L.bounded us a b = false → L.check us = false) := L.check_no_bound hal hbl
                  have hyes1 : Hid (L.bounded us a b = true → ∀ d, d < b + 1 → L.bounded us a d = true) := fun h d hd => by
                    by_cases e : d = b
                    · subst e; exact h
                    · exact hrow.out d (by omega)
                  clear hrow
                  go_wp2_with fail
                  refine HJ.out.mono ?_
                  rintro e w3 ⟨rfl, rfl⟩
                  clear HJ
                  obtain ⟨j, hj⟩ : ∃ j, L.join us a b = j := ⟨_, rfl⟩
                  rw [hj] at hpf ⊢
                  clear hj
                  by_cases hj0 : j < 0
                  · have dj : decide (j < 0) = true := by simp; omega
                    have hfin : Hid (L.check us = false) := hno.out (by rw [hpf.out, dj]; rfl)
                    clear hpf hno hyes hyes1 HM hall
                    go_wp2_with fail
                    go_ret
                    exact ⟨ret_bool hfin.out.symm, hbr⟩
                  · have dj : decide (j < 0) = false := by simp; omega
                    have hpf3 : Hid (L.bounded us a b = !decide (L.meet us a b < 0)) := by unfold Hid; rw [hpf.out, dj]; rfl
                    clear hpf
                    go_wp2_with fail
                    refine HM.out.mono ?_
                    rintro e w4 ⟨rfl, hb4⟩
                    replace hbr := below_next hbr hb4
                    clear HM hb4
                    obtain ⟨m, hm⟩ : ∃ m, L.meet us a b = m := ⟨_, rfl⟩
                    rw [hm] at hpf3 ⊢
                    clear hm
                    by_cases hm0 : m < 0
                    · have dm : decide (m < 0) = true := by simp; omega
                      have hfin : Hid (L.check us = false) := hno.out (by rw [hpf3.out, dm]; rfl)
                      clear hpf3 hno hyes hyes1 hall
                      go_wp2_with fail
                      go_ret
                      exact ⟨ret_bool hfin.out.symm, hbr⟩
                    · have dm : decide (m < 0) = false := by simp; omega
                      have hnext : Hid (∀ d, d < b + 1 → L.bounded us a d = true) := hyes1.out (by rw [hpf3.out, dm]; rfl)
                      clear hpf3 hno hyes1
                      go_wp2_with fail
                      go_roundw
                      case rel => exact ⟨b + 1, by omega, by go_num, hbr, hnext⟩
                      case measure => simp [intOf]; omega
                · obtain rfl : b = a := by omega
                  have hnext : Hid (∀ c d, c < b + 1 → d < c → L.bounded us c d = true) := fun c d hc hd => by
                    by_cases e : c = b
                    · subst e; exact hrow.out d hd
                    · exact hall.out c d (by omega) hd
                  clear hall hrow hbl hb
                  go_wp2_with fail
                  go_roundw
                  case rel => exact ⟨b + 1, by omega, by go_num, hbr, hnext⟩
                  case measure => simp [intOf]; omega
            · obtain rfl : a = us.length := by omega
              have hfin : Hid (L.check us = true) := hyes.out hall.out
              clear hall hal ha hyes
              go_wp2_with fail
              go_ret
              exact ⟨ret_bool hfin.out.symm, hbr⟩
    · have d2 : decide ((64 : Int) < (us.length : Int)) = true := by simp; omega
      have hfin := Lib.hid (L.check_size (us := us) fun h => h64 h.2)
      clear h1 h64 hv hu
      go_enter Tryd.func38, Tryd.ntmps38
      go_wp2_with fail
      go_ret
      exact ⟨ret_bool hfin.out.symm, Below.refl _ _⟩
  · have d1 : decide ((us.length : Int) < 1) = true := by simp; omega
    have hfin := Lib.hid (L.check_size (us := us) fun h => h1 h.1)
    clear h1 hv hu
    go_enter Tryd.func38, Tryd.ntmps38
    go_wp2_with fail
    go_ret
    exact ⟨ret_bool hfin.out.symm, Below.refl _ _⟩
end Go.Proofs.YtmapmeacjpoaoaaDoor
namespace Go.Proofs.YtmapmeacjpoaoaaDoor
open Go Go.RowKit

namespace L
def gok (us : List Nat) (l : List Gr) (i : Nat) : Bool := fits us (l.getD i (0, 0, 0)) && (decide (i = 0) || gless (l.getD (i - 1) (0, 0, 0)) (l.getD i (0, 0, 0)))
def gcheck (us : List Nat) (l : List Gr) : Bool := (List.range l.length).all (gok us l) && decide (l.length ≤ 64)
theorem gcheck_no {us : List Nat} {l : List Gr} {i : Nat} (hi : i < l.length) (h : gok us l i = false) : gcheck us l = false := by
  unfold gcheck
  have : (List.range l.length).all (gok us l) = false := by
    rw [List.all_eq_false]
    exact ⟨i, List.mem_range.2 hi, by rw [h]; decide⟩
  rw [this]; rfl
theorem gcheck_all {us : List Nat} {l : List Gr} (h : ∀ i, i < l.length → gok us l i = true) : gcheck us l = decide (l.length ≤ 64) := by
  unfold gcheck
  have : (List.range l.length).all (gok us l) = true := List.all_eq_true.2 fun i hi => h i (List.mem_range.1 hi)
  rw [this]; rfl
theorem gcheck_long {us : List Nat} {l : List Gr} (h : 64 < l.length) : gcheck us l = false := by
  unfold gcheck
  rw [decide_eq_false (by omega), Bool.and_false]
theorem gok_getElem {us : List Nat} {l : List Gr} {i : Nat} (hi : i < l.length) : gok us l i = (fits us l[i] && (decide (i = 0) || gless (l.getD (i - 1) (0, 0, 0)) l[i])) := by
  unfold gok
  rw [List.getD_eq_getElem?_getD, List.getElem?_eq_getElem hi]
  rfl
end L

end Go.Proofs.YtmapmeacjpoaoaaDoor
namespace Go.Proofs.YtmapmeacjpoaoaaDoor
open Go Go.RowKit

set_option maxHeartbeats 1000000 in
theorem refGcheck_any (v : Value) (us : List Nat) (vl : Value) (l : List Gr) (w : World) (hv : Us w v us) (hu : U64s us) (hl : Gs w vl l) :
    Calls Tryd.prog 39 #[v, vl] w fun e w' => e = .returned (.bool (L.gcheck us l)) ∧ Below w.heap.size w w' := by
  have hbig := hl.len
  obtain ⟨ao, cap, rfl, -⟩ := hv.shape
  obtain ⟨aol, capl, rfl, -⟩ := hl.shape
  by_cases h64 : 64 < l.length
  · have d0 : decide ((64 : Int) < (l.length : Int)) = true := by simp; omega
    have hfin := Lib.hid (L.gcheck_long (us := us) h64)
    clear hv hl hu h64
    go_enter Tryd.func39, Tryd.ntmps39
    go_wp2_with fail
    go_ret
    exact ⟨by rw [hfin.out]; rfl, Below.refl _ _⟩
  · have d0 : decide ((64 : Int) < (l.length : Int)) = false := by simp; omega
    have hdone : Hid ((∀ i, i < l.length → L.gok us l i = true) → L.gcheck us l = true) := fun h => by
      rw [L.gcheck_all h]; simp; omega
    have HF := Lib.hid (fun (g : Gr) (W : World) (hW : Below w.heap.size w W) => refFits_any _ us g W (hv.below hW) hu)
    have HL := Lib.hid hl
    clear hv hl
    obtain ⟨N, hN⟩ : ∃ N, l.length = N := ⟨_, rfl⟩
    have HN := Lib.hid hN
    rw [hN] at hbig HL d0 ⊢
    clear hN h64
    go_enter Tryd.func39, Tryd.ntmps39
    go_wp2_with fail
    go_loopw [5] (fun i wr => ∃ k : Nat, k ≤ N ∧ i = .int .i64 k ∧ Hid (∀ i, i < k → L.gok us l i = true) ∧ Below w.heap.size w wr) (fun i _ => N - (intOf i).toNat)
    case atStart => exact ⟨0, by omega, rfl, fun i hi => absurd hi (Nat.not_lt_zero _), Below.refl _ _⟩
    case round =>
      obtain ⟨k, hk, rfl, hok, hbr⟩ := hrel
      by_cases hkN : k < N
      · have hkl : k < l.length := by have := HN.out; omega
        have hgok := Lib.hid (L.gok_getElem (us := us) hkl)
        obtain ⟨b, off, rfl, hc⟩ := Gs.at3 (Three.Ss.below HL.out hbr) hkl
        obtain ⟨p0, p1, p2⟩ := hc k hkl
        obtain ⟨y, hy⟩ : ∃ y, l[k] = y := ⟨_, rfl⟩
        have HY := Lib.hid hy
        rw [hy] at p0 p1 p2 hgok
        obtain ⟨y0, y1, y2⟩ := y
        simp only [] at p0 p1 p2
        clear hc hy
        have HFk := Lib.hid (HF.out (y0, y1, y2) wr hbr)
        cases hf : L.fits us (y0, y1, y2) with
        | false =>
          have hfin : Hid (L.gcheck us l = false) := L.gcheck_no hkl (by rw [hgok.out, hf]; rfl)
          rw [hf] at HFk
          clear hf hgok
          go_wp2_with fail
          refine HFk.out.mono ?_
          rintro e w1 ⟨rfl, hb⟩
          have hb1 := below_next hbr hb
          clear hb p0 p1 p2 HFk
          go_wp2_with fail
          refine wp_region_mix ext_grow [(0, false), (1, false), (2, false), (3, false), (4, false), (5, false), (6, false), (7, false), (8, false), (9, false), (10, false), (11, false), (12, false), (13, false), (14, false), (15, false), (16, false), (17, false), (18, false)] (by kernel_rfl) (by kernel_rfl) ?_
          have hb2 : Below w.heap.size w w1.drew := hb1.drew
          generalize w1.drew = w2 at *
          repeat (refine mix_soft rfl (fun K hK => ?_); go_simp; (first | (refine hK _ ?_; clear hK K)))
          refine mix_done fun w4 hb4 => ?_
          have hbz := below_next hb2 hb4
          go_wp2_with fail
          go_ret
          exact ⟨by rw [hfin.out]; rfl, hbz⟩
        | true =>
          rw [hf] at HFk
          by_cases hk0 : k = 0
          · subst hk0
            have hnext : Hid (∀ i, i < 0 + 1 → L.gok us l i = true) := fun i hi => by
              obtain rfl : i = 0 := by omega
              rw [hgok.out, hf]
              rfl
            clear hf hgok
            simp only [Nat.zero_mul, Nat.add_zero] at p0 p1 p2
            go_wp2_with fail
            refine HFk.out.mono ?_
            rintro e w1 ⟨rfl, hb⟩
            have hb1 := below_next hbr hb
            clear hb p0 p1 p2 HFk
            go_wp2_with fail
            refine wp_region_mix ext_grow [(0, false), (1, false), (2, false), (3, false), (4, false), (5, false), (6, false), (7, false), (8, false), (9, false), (10, false), (11, false), (12, false), (13, false), (14, false), (15, false), (16, false), (17, false), (18, false)] (by kernel_rfl) (by kernel_rfl) ?_
            have hb2 : Below w.heap.size w w1.drew := hb1.drew
            generalize w1.drew = w2 at *
            repeat (refine mix_soft rfl (fun K hK => ?_); go_simp; (first | (refine hK _ ?_; clear hK K)))
            refine mix_done fun w4 hb4 => ?_
            have hbz := below_next hb2 hb4
            go_wp2_with fail
            go_roundw
            case rel => exact ⟨0 + 1, by omega, by go_num, hnext, hbz⟩
            case measure => simp [intOf]; omega
          · obtain ⟨m, rfl⟩ : ∃ m, k = m + 1 := ⟨k - 1, by omega⟩
            have hml : m < l.length := by omega
            have hmN : (m : Int) < (N : Int) := by omega
            have hwr : IntKind.i64.wrap (m : Int) = (m : Int) := by rw [IntKind.wrap_i64]; omega
            have hkI : (m : Int) + 1 < (N : Int) := by omega
            have hti : ((m : Int) + 1).toNat = m + 1 := by omega
            have hge : (0 : Int) ≤ (m : Int) + 1 := by omega
            have hpos : decide ((0 : Int) < (m : Int) + 1) = true := by rw [decide_eq_true_eq]; omega
            rw [show m + 1 - 1 = m from rfl, List.getD_eq_getElem?_getD, List.getElem?_eq_getElem hml, Option.getD_some, hf, decide_eq_false (p := m + 1 = 0) (by omega)] at hgok
            obtain ⟨z, hz⟩ : ∃ z, l[m] = z := ⟨_, rfl⟩
            rw [hz] at hgok
            have HZ := Lib.hid hz
            obtain ⟨z0, z1, z2⟩ := z
            clear hz hf hk0
            go_wp2_with fail
            refine HFk.out.mono ?_
            rintro e w1 ⟨rfl, hb⟩
            have hb1 := below_next hbr hb
            clear hb p0 p1 p2 HFk
            go_wp2_with fail
            refine wp_region_mix ext_grow [(0, false), (1, false), (2, false), (3, false), (4, false), (5, false), (6, false), (7, false), (8, false), (9, false), (10, false), (11, false), (12, false), (13, false), (14, false), (15, false), (16, false), (17, false), (18, false)] (by kernel_rfl) (by kernel_rfl) ?_
            have hb2 : Below w.heap.size w w1.drew := hb1.drew
            have HLw := Lib.hid (Three.Ss.below HL.out hb2)
            generalize w1.drew = w2 at *
            have HLz := Lib.hid (fun (x : Later w2) => Gs.at3 (Three.Ss.below HLw.out x.2) hml)
            have hcz : Hid (∀ (x : Later w2) i (hi : i < l.length), x.1.cell? ⟨b, off + i * 3, none⟩ = some (.int .i64 l[i].1) ∧ x.1.cell? ⟨b, off + i * 3 + 1, none⟩ = some (.int .i64 l[i].2.1) ∧ x.1.cell? ⟨b, off + i * 3 + 2, none⟩ = some (.int .i64 l[i].2.2)) := fun x => by
              obtain ⟨b', off', e, h⟩ := HLz.out x
              obtain ⟨rfl, rfl⟩ : b = b' ∧ off = off' := by simpa using e
              exact h
            have g0 : ∀ x : Later w2, x.1.cell? ⟨b, off + m * 3, none⟩ = some (.int .i64 z0) := fun x => by have := (hcz.out x m hml).1; rwa [HZ.out] at this
            have g1 : ∀ x : Later w2, x.1.cell? ⟨b, off + m * 3 + 1, none⟩ = some (.int .i64 z1) := fun x => by have := (hcz.out x m hml).2.1; rwa [HZ.out] at this
            have g2 : ∀ x : Later w2, x.1.cell? ⟨b, off + m * 3 + 2, none⟩ = some (.int .i64 z2) := fun x => by have := (hcz.out x m hml).2.2; rwa [HZ.out] at this
            have p0 : ∀ x : Later w2, x.1.cell? ⟨b, off + (m + 1) * 3, none⟩ = some (.int .i64 y0) := fun x => by have := (hcz.out x (m + 1) hkl).1; rwa [HY.out] at this
            have p1 : ∀ x : Later w2, x.1.cell? ⟨b, off + (m + 1) * 3 + 1, none⟩ = some (.int .i64 y1) := fun x => by have := (hcz.out x (m + 1) hkl).2.1; rwa [HY.out] at this
            have p2 : ∀ x : Later w2, x.1.cell? ⟨b, off + (m + 1) * 3 + 2, none⟩ = some (.int .i64 y2) := fun x => by have := (hcz.out x (m + 1) hkl).2.2; rwa [HY.out] at this
            have HLx : Hid (∀ x : Later w2, Calls Tryd.prog 65 #[gv (z0, z1, z2), gv (y0, y1, y2)] x.1 fun e w' => e = .returned (.bool (L.gless (z0, z1, z2) (y0, y1, y2))) ∧ Ext x.1 w') := fun x => refLess_any _ _ x.1
            clear hcz HLz HLw HY HZ
            cases hg : L.gless (z0, z1, z2) (y0, y1, y2) with
            | false =>
              have hfin : Hid (L.gcheck us l = false) := L.gcheck_no hkl (by rw [hgok.out, hg]; rfl)
              rw [hg] at HLx
              clear hg hgok
              repeat (refine mix_soft rfl (fun K hK => ?_); go_simp; (first | (refine hK _ ?_; clear hK K) | (apply Exists.intro; refine ⟨fun x => ?_, hK _ ?_⟩; (first | (go_at_call 65; with_reducible exact HLx.out x)); clear hK K)))
              refine mix_done fun w4 hb4 => ?_
              have hbz := below_next hb2 hb4
              clear g0 g1 g2 p0 p1 p2
              go_wp2_with fail
              go_ret
              exact ⟨by rw [hfin.out]; rfl, hbz⟩
            | true =>
              have hnext : Hid (∀ i, i < m + 1 + 1 → L.gok us l i = true) := fun i hi => by
                by_cases e : i = m + 1
                · subst e; rw [hgok.out, hg]; rfl
                · exact hok.out i (by omega)
              rw [hg] at HLx
              clear hg hgok
              repeat (refine mix_soft rfl (fun K hK => ?_); go_simp; (first | (refine hK _ ?_; clear hK K) | (apply Exists.intro; refine ⟨fun x => ?_, hK _ ?_⟩; (first | (go_at_call 65; with_reducible exact HLx.out x)); clear hK K)))
              refine mix_done fun w4 hb4 => ?_
              have hbz := below_next hb2 hb4
              clear g0 g1 g2 p0 p1 p2
              go_wp2_with fail
              go_roundw
              case rel => exact ⟨m + 1 + 1, by omega, by go_num, hnext, hbz⟩
              case measure => simp [intOf]; omega
      · obtain rfl : k = N := by omega
        have hfin : Hid (L.gcheck us l = true) := hdone.out fun i hi => hok.out i (by have := HN.out; omega)
        go_wp2_with fail
        go_ret
        exact ⟨by rw [hfin.out]; rfl, hbr⟩
end Go.Proofs.YtmapmeacjpoaoaaDoor
namespace Go.Proofs.YtmapmeacjpoaoaaDoor
open Go Go.RowKit

/-- A configuration's four slices. -/
structure Cf (w : World) (vn vu vq vg : Value) (ns : List (List UInt8)) (us : List Nat) (qs : List Int) (gs : List Gr) : Prop where
  n : Ks w vn ns
  u : Us w vu us
  u64 : U64s us
  q : Zs w vq qs
  g : Gs w vg gs
theorem Cf.below {w w' : World} {vn vu vq vg : Value} {ns : List (List UInt8)} {us : List Nat} {qs : List Int} {gs : List Gr} (h : Cf w vn vu vq vg ns us qs gs) (hb : Below w.heap.size w w') : Cf w' vn vu vq vg ns us qs gs :=
  ⟨h.n.below hb, h.u.below hb, h.u64, Sl.below h.q hb, Three.Ss.below h.g hb⟩
theorem Ks.take {w : World} {ao : Option Addr} {n cap : Nat} {l : List (List UInt8)} (h : Ks w (.slice ao n cap) l) (hn : l.length = n) (k : Nat) (hk : k ≤ n) : ∃ v', Ks w v' (l.take k) ∧ ∀ W, (Instr.slice 22 (.slice ao n cap) none (some (.int .i64 k)) none).run Tryd.prog W = .ok v' W := by
  have h' : Sl w 1 n (.slice ao n cap) (strCells l) := by unfold Ks at h; rw [hn] at h; exact h
  obtain ⟨v', h1, h2⟩ := run_take (P := Tryd.prog) (t := 22) Tryd.underlying22 infoStr h' .i64 k hk
  refine ⟨v', ?_, h2⟩
  unfold Ks
  rw [List.length_take, hn, Nat.min_eq_left hk]
  rw [Nat.mul_one] at h1
  simpa [strCells, List.map_take] using h1

end Go.Proofs.YtmapmeacjpoaoaaDoor
namespace Go.Proofs.YtmapmeacjpoaoaaDoor
open Go Go.RowKit Go.ChangeShapes Go.WideShapes Go.ChangeAt

section
variable {H : Type} {enc : TypeId × Value → H} {P : Program} {W : World}

theorem sl_of {C : List Value} {a : Addr} {len cap : Nat} (hC : C.length = len) (hl : len ≤ cap) (hm : cap ≤ maxLen) (h : ∀ i (hi : i < C.length), W.cell? (a.add i) = some C[i]) : Sl W 1 len (.slice (some a) len cap) C := by
  refine ⟨by omega, some a, cap, rfl, hl, hm, fun e => (by cases e), fun j hj => ?_⟩
  have gz := h 0 (by omega)
  have gj := h j hj
  obtain ⟨b, off, spot⟩ := a
  have hspot : spot = none := by simpa [Addr.add] using World.cell?_spot gz
  subst hspot
  rw [add_plain] at gj
  exact ⟨b, off, rfl, gj⟩

theorem open_ks {t e : TypeId} {fuel : Nat} {cs : List Value} {x : DataW H × List MemPlace} (ht : P.underlying t = some (.slice e)) (he : P.underlying e = some .string) (hc : P.cellsOf e = 1)
    (h : DataW.trod enc P W 0 (fun _ => true) true fuel t cs = some x) : ∃ (v : Value) (l : List (List UInt8)), cs = [v] ∧ Ks W v l := by
  rcases Deep.open_slice1 ht hc h with ⟨rfl, -⟩ | ⟨a, len, cap, m, n, V, D, Pl, rfl, -, hl, hm, hmm, -, hi⟩
  · exact ⟨_, [], rfl, Ks.nil _⟩
  · simp only [if_true] at hmm
    subst hmm
    have hex : ∀ i, i < len → ∃ g : List UInt8, W.cell? (a.add i) = some (.string (str g)) := fun i hil => by
      obtain ⟨h1, h2⟩ := hi i (by omega)
      obtain ⟨z, e1, -, -⟩ := DataW.trod_string he h2
      simp only [List.cons.injEq, and_true] at e1
      exact ⟨z.data.toList, by rw [h1, e1, str_of]⟩
    obtain ⟨F, hF⟩ := Deep.choose_lt hex
    refine ⟨_, (List.range len).map F, rfl, ?_⟩
    unfold Ks
    have hll : ((List.range len).map F).length = len := by simp
    rw [hll]
    refine sl_of (by simp [strCells]) hl hm fun i hi => ?_
    rw [strCells_length, hll] at hi
    rw [hF i hi]
    simp [strCells]

theorem open_zs {t e : TypeId} {fuel : Nat} {cs : List Value} {x : DataW H × List MemPlace} (ht : P.underlying t = some (.slice e)) (he : P.underlying e = some (.int .i64)) (hc : P.cellsOf e = 1)
    (h : DataW.trod enc P W 0 (fun _ => true) true fuel t cs = some x) : ∃ (v : Value) (l : List Int), cs = [v] ∧ Zs W v l := by
  rcases Deep.open_slice1 ht hc h with ⟨rfl, -⟩ | ⟨a, len, cap, m, n, V, D, Pl, rfl, -, hl, hm, hmm, -, hi⟩
  · exact ⟨_, [], rfl, Sl.nil _ 1⟩
  · simp only [if_true] at hmm
    subst hmm
    have hex : ∀ i, i < len → ∃ g : Int, W.cell? (a.add i) = some (.int .i64 g) := fun i hil => by
      obtain ⟨h1, h2⟩ := hi i (by omega)
      obtain ⟨z, e1, -⟩ := DataW.trod_int he h2
      simp only [List.cons.injEq, and_true] at e1
      exact ⟨z, by rw [h1, e1]⟩
    obtain ⟨F, hF⟩ := Deep.choose_lt hex
    refine ⟨_, (List.range len).map F, rfl, ?_⟩
    unfold Zs
    have hll : ((List.range len).map F).length = len := by simp
    rw [hll]
    refine sl_of (by simp) hl hm fun i hi => ?_
    rw [List.length_map, hll] at hi
    rw [hF i hi]
    simp

set_option maxHeartbeats 1000000 in
theorem open_ops {t e ek : TypeId} {fuel : Nat} {cs : List Value} {x : DataW H × List MemPlace} {f0 f1 f2 f3 f4 f5 f6 f7 f8 f9 f10 : Field} (ht : P.underlying t = some (.slice e)) (he : P.underlying e = some (.struct #[f0, f1, f2, f3, f4, f5, f6, f7, f8, f9, f10])) (hone : Deep.oneCellFields P #[f0, f1, f2, f3, f4, f5, f6, f7, f8, f9, f10] = true) (hC : P.cellsOf e = 11)
    (h0 : P.underlying f0.type = some (.int .i64)) (h1 : P.underlying f1.type = some (.int .i64)) (h2 : P.underlying f2.type = some (.int .i64)) (h3 : P.underlying f3.type = some (.int .i64)) (h4 : P.underlying f4.type = some .string) (h5 : P.underlying f5.type = some .string) (h6 : P.underlying f6.type = some .string) (h7 : P.underlying f7.type = some (.int .i64)) (h8 : P.underlying f8.type = some (.int .i64)) (h9 : P.underlying f9.type = some (.int .i64)) (h10 : P.underlying f10.type = some (.slice ek)) (hek : P.underlying ek = some .string) (hck : P.cellsOf ek = 1)
    (h : DataW.trod enc P W 0 (fun _ => true) true fuel t cs = some x) : ∃ (v : Value) (l : List Opr), cs = [v] ∧ Os W v l := by
  rcases Deep.open_slice ht h with ⟨rfl, -⟩ | ⟨a, len, cap, m, n, D, Pl, rfl, -, hl, hm, hmm, -, hi⟩
  · exact ⟨_, [], rfl, Os.nil _⟩
  · simp only [if_true] at hmm
    subst hmm
    have hex : ∀ i, i < len → ∃ g : Opr × Value, W.cell? (a.add (i * 11)) = some (.int .i64 g.1.kind) ∧ W.cell? (a.add (i * 11 + 1)) = some (.int .i64 g.1.level) ∧ W.cell? (a.add (i * 11 + 2)) = some (.int .i64 g.1.ses) ∧ W.cell? (a.add (i * 11 + 3)) = some (.int .i64 g.1.snap) ∧ W.cell? (a.add (i * 11 + 4)) = some (.string (str g.1.bucket)) ∧ W.cell? (a.add (i * 11 + 5)) = some (.string (str g.1.key)) ∧ W.cell? (a.add (i * 11 + 6)) = some (.string (str g.1.val)) ∧ W.cell? (a.add (i * 11 + 7)) = some (.int .i64 g.1.label) ∧ W.cell? (a.add (i * 11 + 8)) = some (.int .i64 g.1.to) ∧ W.cell? (a.add (i * 11 + 9)) = some (.int .i64 g.1.n) ∧ W.cell? (a.add (i * 11 + 10)) = some g.2 ∧ Ks W g.2 g.1.keep := fun i hil => by
      obtain ⟨cs', hc, htr⟩ := hi i (by omega)
      rw [hC] at hc
      obtain ⟨-, hlen, hat⟩ := World.cells?_some hc
      obtain ⟨xs, n', -, -, -, hxl, hfs⟩ := DataW.trod_struct he htr
      match cs', hlen with
      | [c0, c1, c2, c3, c4, c5, c6, c7, c8, c9, c10], _ =>
        obtain ⟨o0, k0⟩ := Deep.hone_of hone 0 f0 rfl
        obtain ⟨o1, k1⟩ := Deep.hone_of hone 1 f1 rfl
        obtain ⟨o2, k2⟩ := Deep.hone_of hone 2 f2 rfl
        obtain ⟨o3, k3⟩ := Deep.hone_of hone 3 f3 rfl
        obtain ⟨o4, k4⟩ := Deep.hone_of hone 4 f4 rfl
        obtain ⟨o5, k5⟩ := Deep.hone_of hone 5 f5 rfl
        obtain ⟨o6, k6⟩ := Deep.hone_of hone 6 f6 rfl
        obtain ⟨o7, k7⟩ := Deep.hone_of hone 7 f7 rfl
        obtain ⟨o8, k8⟩ := Deep.hone_of hone 8 f8 rfl
        obtain ⟨o9, k9⟩ := Deep.hone_of hone 9 f9 rfl
        obtain ⟨o10, k10⟩ := Deep.hone_of hone 10 f10 rfl
        match xs, hxl with
        | [y0, y1, y2, y3, y4, y5, y6, y7, y8, y9, y10], _ =>
          have q0 := hfs 0 f0 rfl
          rw [o0, k0] at q0
          have q1 := hfs 1 f1 rfl
          rw [o1, k1] at q1
          have q2 := hfs 2 f2 rfl
          rw [o2, k2] at q2
          have q3 := hfs 3 f3 rfl
          rw [o3, k3] at q3
          have q4 := hfs 4 f4 rfl
          rw [o4, k4] at q4
          have q5 := hfs 5 f5 rfl
          rw [o5, k5] at q5
          have q6 := hfs 6 f6 rfl
          rw [o6, k6] at q6
          have q7 := hfs 7 f7 rfl
          rw [o7, k7] at q7
          have q8 := hfs 8 f8 rfl
          rw [o8, k8] at q8
          have q9 := hfs 9 f9 rfl
          rw [o9, k9] at q9
          have q10 := hfs 10 f10 rfl
          rw [o10, k10] at q10
          obtain ⟨z0, e0, -⟩ := DataW.trod_int h0 (show DataW.trod enc P W 0 (fun _ => true) true n' f0.type [c0] = some y0 from q0)
          simp only [List.cons.injEq, and_true] at e0
          subst e0
          obtain ⟨z1, e1, -⟩ := DataW.trod_int h1 (show DataW.trod enc P W 0 (fun _ => true) true n' f1.type [c1] = some y1 from q1)
          simp only [List.cons.injEq, and_true] at e1
          subst e1
          obtain ⟨z2, e2, -⟩ := DataW.trod_int h2 (show DataW.trod enc P W 0 (fun _ => true) true n' f2.type [c2] = some y2 from q2)
          simp only [List.cons.injEq, and_true] at e2
          subst e2
          obtain ⟨z3, e3, -⟩ := DataW.trod_int h3 (show DataW.trod enc P W 0 (fun _ => true) true n' f3.type [c3] = some y3 from q3)
          simp only [List.cons.injEq, and_true] at e3
          subst e3
          obtain ⟨z4, e4, -, -⟩ := DataW.trod_string h4 (show DataW.trod enc P W 0 (fun _ => true) true n' f4.type [c4] = some y4 from q4)
          simp only [List.cons.injEq, and_true] at e4
          subst e4
          obtain ⟨z5, e5, -, -⟩ := DataW.trod_string h5 (show DataW.trod enc P W 0 (fun _ => true) true n' f5.type [c5] = some y5 from q5)
          simp only [List.cons.injEq, and_true] at e5
          subst e5
          obtain ⟨z6, e6, -, -⟩ := DataW.trod_string h6 (show DataW.trod enc P W 0 (fun _ => true) true n' f6.type [c6] = some y6 from q6)
          simp only [List.cons.injEq, and_true] at e6
          subst e6
          obtain ⟨z7, e7, -⟩ := DataW.trod_int h7 (show DataW.trod enc P W 0 (fun _ => true) true n' f7.type [c7] = some y7 from q7)
          simp only [List.cons.injEq, and_true] at e7
          subst e7
          obtain ⟨z8, e8, -⟩ := DataW.trod_int h8 (show DataW.trod enc P W 0 (fun _ => true) true n' f8.type [c8] = some y8 from q8)
          simp only [List.cons.injEq, and_true] at e8
          subst e8
          obtain ⟨z9, e9, -⟩ := DataW.trod_int h9 (show DataW.trod enc P W 0 (fun _ => true) true n' f9.type [c9] = some y9 from q9)
          simp only [List.cons.injEq, and_true] at e9
          subst e9
          obtain ⟨z10, kk, e10, hkk⟩ := open_ks h10 hek hck (show DataW.trod enc P W 0 (fun _ => true) true n' f10.type [c10] = some y10 from q10)
          simp only [List.cons.injEq, and_true] at e10
          subst e10
          have r0 := hat 0 (by decide)
          have r1 := hat 1 (by decide)
          have r2 := hat 2 (by decide)
          have r3 := hat 3 (by decide)
          have r4 := hat 4 (by decide)
          have r5 := hat 5 (by decide)
          have r6 := hat 6 (by decide)
          have r7 := hat 7 (by decide)
          have r8 := hat 8 (by decide)
          have r9 := hat 9 (by decide)
          have r10 := hat 10 (by decide)
          rw [Deep.add_add] at r0 r1 r2 r3 r4 r5 r6 r7 r8 r9 r10
          exact ⟨(⟨z0, z1, z2, z3, z4.data.toList, z5.data.toList, z6.data.toList, z7, z8, z9, kk⟩, c10), by rw [show i * 11 = i * 11 + 0 by omega, r0]; rfl, by rw [r1]; rfl, by rw [r2]; rfl, by rw [r3]; rfl, by rw [r4, str_of]; rfl, by rw [r5, str_of]; rfl, by rw [r6, str_of]; rfl, by rw [r7]; rfl, by rw [r8]; rfl, by rw [r9]; rfl, by rw [r10]; rfl, hkk⟩
    haveI : Inhabited (Opr × Value) := ⟨(⟨0, 0, 0, 0, [], [], [], 0, 0, 0, []⟩, .int .i64 0)⟩
    obtain ⟨F, hF⟩ := Deep.choose_lt hex
    refine ⟨_, (List.range len).map fun i => (F i).1, rfl, (List.range len).map fun i => (F i).2, by simp, ?_, fun i a b => ?_⟩
    · have hz : List.zipWith Op11.put ((List.range len).map fun i => (F i).1) ((List.range len).map fun i => (F i).2) = (List.range len).map fun i => (F i).1.put (F i).2 := by
        rw [List.zipWith_map]; simp [List.zipWith_self]
      have hll : ((List.range len).map fun i => (F i).1).length = len := by simp
      rw [hz, hll]
      have hzl : ((List.range len).map fun i => (F i).1.put (F i).2).length = len := by simp
      refine ⟨by rw [opCells_length, hzl], some a, _, rfl, hl, hm, fun e => (by cases e), fun j hj => ?_⟩
      have hj' := hj
      rw [opCells_length, hzl] at hj
      obtain ⟨g0, g1, g2, g3, g4, g5, g6, g7, g8, g9, g10, -⟩ := hF (j / 11) (by omega)
      have gz := (hF 0 (by omega)).1
      obtain ⟨b, off, spot⟩ := a
      have hspot : spot = none := by simpa [Addr.add] using World.cell?_spot gz
      subst hspot
      refine ⟨b, off, rfl, ?_⟩
      rw [add_plain] at g0 g1 g2 g3 g4 g5 g6 g7 g8 g9 g10
      have hj11 : j = j / 11 * 11 + j % 11 := by omega
      have hlt : j % 11 < 11 := Nat.mod_lt _ (by decide)
      have hat := fun k hk => opCells_at ((List.range len).map fun i => (F i).1.put (F i).2) (j / 11) (by rw [hzl]; omega) k hk
      simp only [List.getElem_map, List.getElem_range] at hat
      have key : ∀ k x, j = j / 11 * 11 + k → k < 11 → ((F (j / 11)).1.put (F (j / 11)).2).cs[k]? = some x → W.cell? ⟨b, off + (j / 11 * 11 + k), none⟩ = some x → W.cell? ⟨b, off + j, none⟩ = some ((opCells ((List.range len).map fun i => (F i).1.put (F i).2))[j]'hj') := fun k x e hk hx hw => by
        have h1 := hat k hk
        rw [← e, hx] at h1
        obtain ⟨_, hx'⟩ := List.getElem?_eq_some_iff.1 h1
        rw [hx']
        rw [← e] at hw
        exact hw
      match hr : j % 11, hlt with
      | 0, _ => exact key 0 _ (by omega) (by decide) rfl g0
      | 1, _ => exact key 1 _ (by omega) (by decide) rfl g1
      | 2, _ => exact key 2 _ (by omega) (by decide) rfl g2
      | 3, _ => exact key 3 _ (by omega) (by decide) rfl g3
      | 4, _ => exact key 4 _ (by omega) (by decide) rfl g4
      | 5, _ => exact key 5 _ (by omega) (by decide) rfl g5
      | 6, _ => exact key 6 _ (by omega) (by decide) rfl g6
      | 7, _ => exact key 7 _ (by omega) (by decide) rfl g7
      | 8, _ => exact key 8 _ (by omega) (by decide) rfl g8
      | 9, _ => exact key 9 _ (by omega) (by decide) rfl g9
      | 10, _ => exact key 10 _ (by omega) (by decide) rfl g10
    · have ha : i < len := by simpa using a
      have := (hF i ha)
      simp only [List.getElem_map, List.getElem_range]
      exact this.2.2.2.2.2.2.2.2.2.2.2

theorem open_ops_v {t e ek base : TypeId} {v : Value} {d : DataW H} {ps : List MemPlace} {f0 f1 f2 f3 f4 f5 f6 f7 f8 f9 f10 : Field} (ht : P.underlying t = some (.slice e)) (he : P.underlying e = some (.struct #[f0, f1, f2, f3, f4, f5, f6, f7, f8, f9, f10])) (hone : Deep.oneCellFields P #[f0, f1, f2, f3, f4, f5, f6, f7, f8, f9, f10] = true) (hC : P.cellsOf e = 11)
    (h0 : P.underlying f0.type = some (.int .i64)) (h1 : P.underlying f1.type = some (.int .i64)) (h2 : P.underlying f2.type = some (.int .i64)) (h3 : P.underlying f3.type = some (.int .i64)) (h4 : P.underlying f4.type = some .string) (h5 : P.underlying f5.type = some .string) (h6 : P.underlying f6.type = some .string) (h7 : P.underlying f7.type = some (.int .i64)) (h8 : P.underlying f8.type = some (.int .i64)) (h9 : P.underlying f9.type = some (.int .i64)) (h10 : P.underlying f10.type = some (.slice ek)) (hek : P.underlying ek = some .string) (hck : P.cellsOf ek = 1)
    (hok : Value.okWide P W .any base t v) (h : DataW.Trod enc P W 0 (fun _ => true) true t v d ps) : ∃ l : List Opr, Os W v l := by
  obtain ⟨a0, len0, cap0, rfl⟩ := okWide_slice ht hok
  obtain ⟨fuel, hf⟩ := h
  obtain ⟨v', l, e1, h1⟩ := open_ops ht he hone hC h0 h1 h2 h3 h4 h5 h6 h7 h8 h9 h10 hek hck hf
  simp only [Value.cells, List.cons.injEq, and_true] at e1
  subst e1
  exact ⟨l, h1⟩

set_option maxHeartbeats 1000000 in
theorem open_conf {t en eu eq eg base : TypeId} {v : Value} {d : DataW H} {ps : List MemPlace} {f0 f1 f2 f3 k0 k1 k2 : Field} (ht : P.underlying t = some (.struct #[f0, f1, f2, f3])) (hone : Deep.oneCellFields P #[f0, f1, f2, f3] = true) (hC : P.cellsOf t = 4)
    (hn : P.underlying f0.type = some (.slice en)) (hen : P.underlying en = some .string) (hcn : P.cellsOf en = 1)
    (hu : P.underlying f1.type = some (.slice eu)) (heu : P.underlying eu = some (.int .u64)) (hcu : P.cellsOf eu = 1)
    (hq : P.underlying f2.type = some (.slice eq)) (heq : P.underlying eq = some (.int .i64)) (hcq : P.cellsOf eq = 1)
    (hg : P.underlying f3.type = some (.slice eg)) (heg : P.underlying eg = some (.struct #[k0, k1, k2])) (hkone : Deep.oneCellFields P #[k0, k1, k2] = true) (hcg : P.cellsOf eg = 3)
    (hk0 : P.underlying k0.type = some (.int .i64)) (hk1 : P.underlying k1.type = some (.int .i64)) (hk2 : P.underlying k2.type = some (.int .i64))
    (hok : Value.okWide P W .any base t v) (h : DataW.Trod enc P W 0 (fun _ => true) true t v d ps) :
    ∃ vn vu vq vg ns us qs gs, v = cfv vn vu vq vg ∧ Cf W vn vu vq vg ns us qs gs := by
  obtain ⟨⟨cs⟩, rfl, hcs⟩ := okWide_struct ht hok
  obtain ⟨fuel, hf⟩ := h
  obtain ⟨xs, n', -, -, -, hxl, hfs⟩ := DataW.trod_struct ht hf
  rw [hC] at hcs
  match cs, hcs with
  | [c0, c1, c2, c3], _ =>
    match xs, hxl with
    | [y0, y1, y2, y3], _ =>
      obtain ⟨o0, l0⟩ := Deep.hone_of hone 0 f0 rfl
      obtain ⟨o1, l1⟩ := Deep.hone_of hone 1 f1 rfl
      obtain ⟨o2, l2⟩ := Deep.hone_of hone 2 f2 rfl
      obtain ⟨o3, l3⟩ := Deep.hone_of hone 3 f3 rfl
      have q0 := hfs 0 f0 rfl
      have q1 := hfs 1 f1 rfl
      have q2 := hfs 2 f2 rfl
      have q3 := hfs 3 f3 rfl
      rw [o0, l0] at q0
      rw [o1, l1] at q1
      rw [o2, l2] at q2
      rw [o3, l3] at q3
      replace q0 : DataW.trod enc P W 0 (fun _ => true) true n' f0.type [c0] = some y0 := q0
      replace q1 : DataW.trod enc P W 0 (fun _ => true) true n' f1.type [c1] = some y1 := q1
      replace q2 : DataW.trod enc P W 0 (fun _ => true) true n' f2.type [c2] = some y2 := q2
      replace q3 : DataW.trod enc P W 0 (fun _ => true) true n' f3.type [c3] = some y3 := q3
      obtain ⟨vn, ns, e0, h0⟩ := open_ks hn hen hcn q0
      obtain ⟨vu, us, e1, h1, h1'⟩ := open_u64s_cs hu heu hcu q1
      obtain ⟨vq, qs, e2, h2⟩ := open_zs hq heq hcq q2
      obtain ⟨vg, gs, e3, h3⟩ := open_grs_cs hg heg hkone hcg hk0 hk1 hk2 q3
      simp only [List.cons.injEq, and_true] at e0 e1 e2 e3
      subst e0 e1 e2 e3
      exact ⟨_, _, _, _, ns, us, qs, gs, rfl, h0, h1, h1', h2, h3⟩
end
end Go.Proofs.YtmapmeacjpoaoaaDoor
namespace Go.Proofs.YtmapmeacjpoaoaaDoor
open Go Go.RowKit

abbrev blt : List UInt8 → List UInt8 → Bool := Op.bytesLess
def ordS (a b : List UInt8) : Int := if blt a b then -1 else if a = b then 0 else 1
end Go.Proofs.YtmapmeacjpoaoaaDoor
namespace Go.Proofs.YtmapmeacjpoaoaaDoor
open Go Go.RowKit

/-- A row: its key, label, value. -/
abbrev Rw : Type := List UInt8 × Int × List UInt8
def RW : Three Rw := ⟨fun r => .string (str r.1), fun r => .int .i64 r.2.1, fun r => .string (str r.2.2)⟩

theorem rw_ne (a b : Rw) (w : World) : (binOp .neq 100 (.agg #[RW.c0 a, RW.c1 a, RW.c2 a]) (.agg #[RW.c0 b, RW.c1 b, RW.c2 b])).run Tryd.prog w = .ok (.bool (a != b)) w := by
  have u3 := Tryd.underlying3
  have a3 := Tryd.isAgg3
  have z3 := Tryd.sizeOf3
  have u9 := Tryd.underlying9
  have a9 := Tryd.isAgg9
  have z9 := Tryd.sizeOf9
  have hS : Tryd.prog.underlying 100 = some (.struct (Tryd.prog.fieldsOf 100)) := by kernel_rfl
  have hp : Tryd.prog.stoodInHeld 100 = false := by kernel_rfl
  simp only [RW]
  rw [run_neq_struct, show (10000 : Nat) = 9999 + 1 from rfl, run_equalIn_agg w 9999 100 _ _ hS hp]
  simp only [Program.fieldsOf, Tryd.underlying100]
  obtain ⟨a0, a1, a2⟩ := a
  obtain ⟨b0, b1, b2⟩ := b
  go_simp
  by_cases h1 : a0 = b0 <;> by_cases h2 : a1 = b1 <;> by_cases h3 : a2 = b2 <;> simp [h1, h2, h3, bne]
theorem rw_guard (op : BinOp) (x y : Operand) (xs ys : Array Value) (w : World) : (eqGuard op 100 x y (.agg xs) (.agg ys)).run Tryd.prog w = .ok () w := run_eqGuard_agg _ _ _ _ _ _ _ (by kernel_rfl)

set_option maxHeartbeats 1000000 in
theorem rwSame_any (v1 v2 : Value) (l m : List Rw) (w : World) (h1 : RW.Ss w v1 l) (h2 : RW.Ss w v2 m) :
    Calls Tryd.prog 32 #[v1, v2] w fun e w' => e = .returned (.bool (l == m)) ∧ Below w.heap.size w w' := by
  have hbig := h1.len
  obtain ⟨ao1, cap1, rfl, -⟩ := h1.shape
  obtain ⟨ao2, cap2, rfl, -⟩ := h2.shape
  by_cases hlen : l.length = m.length
  · have hne : ((l.length : Int) != (m.length : Int)) = false := by rw [bne_eq_false_iff_eq]; omega
    have H1 := Lib.hid h1
    have H2 := Lib.hid h2
    clear h1 h2
    obtain ⟨N, hN⟩ : ∃ N, l.length = N := ⟨_, rfl⟩
    have hM := hlen.symm.trans hN
    rw [hN] at hne hbig H1 ⊢
    rw [hM] at hne H2 ⊢
    go_enter Tryd.func32, Tryd.ntmps32
    go_wp2_with fail
    go_loopw [5] (fun i wr => ∃ k : Nat, k ≤ N ∧ i = .int .i64 k ∧ Hid (l.take k = m.take k) ∧ Below w.heap.size w wr) (fun i _ => N - (intOf i).toNat)
    case atStart => exact ⟨0, by omega, rfl, rfl, Below.refl _ _⟩
    case round =>
      obtain ⟨k, hk, rfl, hr, hbr⟩ := hrel
      by_cases hkl : k < N
      · obtain ⟨b1, o1, rfl, hc1⟩ := (H1.out.below hbr).at (j := k) (by omega)
        obtain ⟨b2, o2, rfl, hc2⟩ := (H2.out.below hbr).at (j := k) (by omega)
        obtain ⟨p0, p1, p2⟩ := hc1 k (by omega)
        obtain ⟨q0, q1, q2⟩ := hc2 k (by omega)
        clear hc1 hc2
        have hq := rw_ne l[k] m[k]
        have hg := fun x y => rw_guard .neq x y #[RW.c0 l[k], RW.c1 l[k], RW.c2 l[k]] #[RW.c0 m[k], RW.c1 m[k], RW.c2 m[k]]
        go_wp2_with fail
        go_quiet (fail)
        cases hlm : (l[k] != m[k]) with
        | true =>
          have hfin : Hid ((l == m) = false) := by
            unfold Hid
            rw [beq_eq_false_iff_ne]
            rintro rfl
            simp at hlm
          clear p0 p1 p2 q0 q1 q2 hq hg
          go_wp2_with fail
          go_ret
          exact ⟨by rw [hfin.out]; rfl, below_next hbr (below_drewN _ _)⟩
        | false =>
          have hfin : Hid (l.take (k + 1) = m.take (k + 1)) := by
            unfold Hid
            rw [List.take_succ_eq_append_getElem (by omega), List.take_succ_eq_append_getElem (by omega), hr.out]
            rw [bne_eq_false_iff_eq] at hlm
            rw [hlm]
          clear p0 p1 p2 q0 q1 q2 hq hg
          go_wp2_with fail
          go_roundw
          case rel => exact ⟨k + 1, by omega, by go_num, hfin, below_next hbr (below_drewN _ _)⟩
          case measure => simp [intOf]; omega
      · have hfin : Hid ((l == m) = true) := by
          unfold Hid
          rw [beq_iff_eq]
          have := hr.out
          rwa [List.take_of_length_le (by omega), List.take_of_length_le (by omega)] at this
        go_wp2_with fail
        go_ret
        exact ⟨by rw [hfin.out]; rfl, hbr⟩
  · have hne : ((l.length : Int) != (m.length : Int)) = true := by rw [bne_iff_ne]; omega
    have hfin : Hid ((l == m) = false) := by
      unfold Hid
      rw [beq_eq_false_iff_ne]
      rintro rfl
      exact hlen rfl
    clear h1 h2 hlen
    go_enter Tryd.func32, Tryd.ntmps32
    go_wp2_with fail
    go_ret
    exact ⟨by rw [hfin.out]; rfl, Below.refl _ _⟩
end Go.Proofs.YtmapmeacjpoaoaaDoor
