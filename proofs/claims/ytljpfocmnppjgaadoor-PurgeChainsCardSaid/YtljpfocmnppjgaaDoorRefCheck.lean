/- What jalousieref03.Check returns. -/
import Derived.Test.YtljpfocmnppjgaaDoorCheckPlain
import Derived.Test.YtljpfocmnppjgaaDoorRefJoin
namespace Go.Proofs.YtljpfocmnppjgaaDoor
open Go Go.RowKit

set_option maxRecDepth 4000 in
set_option maxHeartbeats 1000000 in
theorem refCheck_any (v : Value) (us : List Nat) (w : World) (hv : Us w v us) (hu : U64s us) :
    Calls Tryd.prog 36 #[v] w fun e w' => e = .returned (.bool (L.check us)) ∧ Below w.heap.size w w' := by
  obtain ⟨ao, cap, rfl, -⟩ := hv.shape
  have hbig := hv.len
  by_cases h1 : 1 ≤ us.length
  · have d1 : decide ((us.length : Int) < 1) = false := by simp; omega
    by_cases h64 : us.length ≤ 64
    · have d2 : decide ((64 : Int) < (us.length : Int)) = false := by simp; omega
      have HV := Lib.hid hv
      have HU := Lib.hid hu
      have HU2 : Hid (∀ a, us.getD a 0 < 2 ^ 64) := fun a => hu.getD a
      have H1 := Lib.hid h1
      have H64 := Lib.hid h64
      clear hv hu h1
      go_enter Tryd.func36, Tryd.ntmps36
      go_wp2_with fail
      go_loop [3] (fun i => ∃ a : Nat, a ≤ us.length ∧ i = .int .i64 a ∧ Hid (∀ c d, c < a → d < 64 → L.rowFine us c d = true ∧ ∀ e, e < us.length → L.onFine us c d e = true)) (fun i => us.length - (intOf i).toNat)
      case atStart => exact ⟨0, by omega, rfl, fun c d hc => absurd hc (Nat.not_lt_zero _)⟩
      case round =>
        obtain ⟨a, ha, rfl, hall⟩ := hrel
        by_cases hal : a < us.length
        · go_wp2_with fail
          go_loop [4] (fun i => ∃ b : Nat, b ≤ 64 ∧ i = .int .i64 b ∧ Hid (∀ d, d < b → L.rowFine us a d = true ∧ ∀ e, e < us.length → L.onFine us a d e = true)) (fun i => 64 - (intOf i).toNat)
          case atStart => exact ⟨0, by omega, rfl, fun d hd => absurd hd (Nat.not_lt_zero _)⟩
          case round =>
            obtain ⟨b, hb, rfl, hrow⟩ := hrel
            by_cases hbl : b < 64
            · obtain ⟨bk, off, rfl, hcu⟩ := HV.out.at hal
              have hcx := hcu a hal
              have hxl := HU.out.getD a
              have hia : (a : Int) < (us.length : Int) := by omega
              have HB := Lib.hid (fun (c : Nat) (hc : c ≤ 64) => refBit_any (us.getD a 0) c hxl hc w)
              have hrf : Hid (L.rowFine us a b = !((L.bit us a b && decide (us.length ≤ b)) || ((a == b) && !L.bit us a b) || (L.bit us a b && !(a == b) && L.bit us b a))) := rfl
              have hnor : Hid (L.rowFine us a b = false → L.check us = false) := L.check_no_row hal
              have hnoo : Hid (∀ c, c < us.length → L.onFine us a b c = false → L.check us = false) := fun c hc => L.check_no_on hal hc
              have hof : Hid (∀ c, L.onFine us a b c = (!L.bit us a b || !L.bit us b c || L.bit us a c)) := fun c => rfl
              have hnext : Hid (L.rowFine us a b = true → (∀ e, e < us.length → L.onFine us a b e = true) → ∀ d, d < b + 1 → L.rowFine us a d = true ∧ ∀ e, e < us.length → L.onFine us a d e = true) := fun h1 h2 d hd => by
                by_cases e : d = b
                · subst e; exact ⟨h1, h2⟩
                · exact hrow.out d (by omega)
              obtain ⟨x, hx⟩ : ∃ x, us.getD a 0 = x := ⟨_, rfl⟩
              have hxb : Hid (∀ c, L.bit us a c = x.testBit c) := fun c => by unfold L.bit; rw [hx]
              rw [hx] at hcx hxl HB
              have HB1 := Lib.hid (HB.out b (by omega))
              clear hall hrow hx
              cases hto : x.testBit b with
              | false =>
                rw [hto] at HB1
                clear hcu
                by_cases hab : a = b
                · have hfin : Hid (L.check us = false) := hnor.out (by rw [hrf.out, hxb.out b, hto, show (a == b) = true by simp [hab]]; cases L.bit us b a <;> simp)
                  have de : ((a : Int) == (b : Int)) = true := by rw [beq_iff_eq]; omega
                  clear hnor hnoo hof hnext hrf hxb hto hab HB
                  go_wp2_with fail
                  refine HB1.out.mono ?_
                  rintro e w' ⟨rfl, rfl⟩
                  go_wp2_with fail
                  go_ret
                  exact ⟨ret_bool hfin.out.symm, Below.refl _ _⟩
                · have de : ((a : Int) == (b : Int)) = false := by rw [beq_eq_false_iff_ne]; omega
                  have hn2 : Hid (∀ d, d < b + 1 → L.rowFine us a d = true ∧ ∀ e, e < us.length → L.onFine us a d e = true) := hnext.out (by rw [hrf.out, hxb.out b, hto, show (a == b) = false by simp [hab]]; simp) (fun e _ => by rw [hof.out, hxb.out b, hto]; rfl)
                  clear hnor hnoo hof hnext hrf hxb hto hab HB
                  go_wp2_with fail
                  refine HB1.out.mono ?_
                  rintro e w' ⟨rfl, rfl⟩
                  go_wp2_with fail
                  go_loop [6] (fun i => i = .int .i64 0) (fun i => (intOf i).toNat)
                  case atStart => rfl
                  case round =>
                    obtain rfl := hrel
                    go_wp2_with fail
                    go_round
                    case rel => exact ⟨b + 1, by omega, by go_num, hn2⟩
                    case measure => simp [intOf]; omega
              | true =>
                rw [hto] at HB1
                by_cases hbn : b < us.length
                · have dn : decide ((us.length : Int) ≤ (b : Int)) = false := by simp; omega
                  have hib : (b : Int) < (us.length : Int) := by omega
                  have dnn : decide (us.length ≤ b) = false := by simp; omega
                  have hcy := hcu b hbn
                  have hyl := HU.out.getD b
                  have HY := Lib.hid (fun (c : Nat) (hc : c ≤ 64) => refBit_any (us.getD b 0) c hyl hc w)
                  obtain ⟨y, hy⟩ : ∃ y, us.getD b 0 = y := ⟨_, rfl⟩
                  have hyb : Hid (∀ c, L.bit us b c = y.testBit c) := fun c => by unfold L.bit; rw [hy]
                  rw [hy] at hcy hyl HY
                  have hrf2 : Hid (L.rowFine us a b = !(!(a == b) && y.testBit a)) := by
                    unfold Hid; rw [hrf.out, hxb.out b, hyb.out a, hto, dnn]; cases (a == b) <;> simp
                  have HYA := Lib.hid (HY.out a (by have := H64.out; omega))
                  replace hto := Lib.hid hto
                  clear hcu hy hrf
                  by_cases hab : a = b
                  · have de : ((a : Int) == (b : Int)) = true := by rw [beq_iff_eq]; omega
                    have dn2 : ((a : Int) != (b : Int)) = false := by rw [bne_eq_false_iff_eq]; omega
                    have hrt : Hid (L.rowFine us a b = true) := by unfold Hid; rw [hrf2.out, show (a == b) = true by simp [hab]]; rfl
                    clear hrf2 hab HYA hnor
                    go_wp2_with fail
                    refine HB1.out.mono ?_
                    rintro e w' ⟨rfl, rfl⟩
                    clear HB1
                    go_wp2_with fail
                    go_loopw [6] (fun i wr => ∃ c : Nat, c ≤ us.length ∧ i = .int .i64 c ∧ wr = w ∧ Hid (∀ e, e < c → L.onFine us a b e = true)) (fun i _ => us.length - (intOf i).toNat)
                    case atStart => exact ⟨0, by omega, rfl, rfl, fun e he => absurd he (Nat.not_lt_zero _)⟩
                    case round =>
                      obtain ⟨c, hc, rfl, rfl, hon⟩ := hrel
                      by_cases hcl : c < us.length
                      · have HY1 := Lib.hid (HY.out c (by omega))
                        have HB2 := Lib.hid (HB.out c (by omega))
                        have hofc : Hid (L.onFine us a b c = (!y.testBit c || x.testBit c)) := by unfold Hid; rw [hof.out, hxb.out b, hyb.out c, hxb.out c, hto.out]; rfl
                        have hnc : Hid (L.onFine us a b c = true → ∀ e, e < c + 1 → L.onFine us a b e = true) := fun h e he => by
                          by_cases q : e = c
                          · subst q; exact h
                          · exact hon.out e (by omega)
                        have hnoc : Hid (L.onFine us a b c = false → L.check us = false) := hnoo.out c hcl
                        clear hon
                        cases hyc : y.testBit c with
                        | false =>
                          rw [hyc] at HY1
                          have hn3 : Hid (∀ e, e < c + 1 → L.onFine us a b e = true) := hnc.out (by rw [hofc.out, hyc]; rfl)
                          clear hyc hofc hnc hnoc HB2
                          go_wp2_with fail
                          refine HY1.out.mono ?_
                          rintro e w' ⟨rfl, rfl⟩
                          go_wp2_with fail
                          go_roundw
                          case rel => exact ⟨c + 1, by omega, by go_num, trivial, hn3⟩
                          case measure => simp [intOf]; omega
                        | true =>
                          rw [hyc] at HY1
                          cases hxc : x.testBit c with
                          | true =>
                            rw [hxc] at HB2
                            have hn3 : Hid (∀ e, e < c + 1 → L.onFine us a b e = true) := hnc.out (by rw [hofc.out, hxc]; simp)
                            clear hyc hxc hofc hnc hnoc
                            go_wp2_with fail
                            refine HY1.out.mono ?_
                            rintro e w' ⟨rfl, rfl⟩
                            go_wp2_with fail
                            refine HB2.out.mono ?_
                            rintro e w' ⟨rfl, rfl⟩
                            go_wp2_with fail
                            go_roundw
                            case rel => exact ⟨c + 1, by omega, by go_num, trivial, hn3⟩
                            case measure => simp [intOf]; omega
                          | false =>
                            rw [hxc] at HB2
                            have hfin : Hid (L.check us = false) := hnoc.out (by rw [hofc.out, hyc, hxc]; rfl)
                            clear hyc hxc hofc hnc hnoc
                            go_wp2_with fail
                            refine HY1.out.mono ?_
                            rintro e w' ⟨rfl, rfl⟩
                            go_wp2_with fail
                            refine HB2.out.mono ?_
                            rintro e w' ⟨rfl, rfl⟩
                            go_wp2_with fail
                            go_ret
                            exact ⟨ret_bool hfin.out.symm, Below.refl _ _⟩
                      · have hn2 : Hid (∀ d, d < b + 1 → L.rowFine us a d = true ∧ ∀ e, e < us.length → L.onFine us a d e = true) := hnext.out hrt.out (fun e he => hon.out e (by omega))
                        obtain rfl : c = us.length := by omega
                        clear hon hcl hc hnext hnoo hof
                        go_wp2_with fail
                        go_round
                        case rel => exact ⟨b + 1, by omega, by go_num, hn2⟩
                        case measure => simp [intOf]; omega
                  · have de : ((a : Int) == (b : Int)) = false := by rw [beq_eq_false_iff_ne]; omega
                    have dn2 : ((a : Int) != (b : Int)) = true := by rw [bne_iff_ne]; omega
                    rw [show (a == b) = false by simp [hab], Bool.not_false, Bool.true_and] at hrf2
                    clear hab
                    cases hya : y.testBit a with
                    | true =>
                      rw [hya] at HYA hrf2
                      have hfin : Hid (L.check us = false) := hnor.out hrf2.out
                      clear hya hrf2 hnor hnoo hof hnext hto hxb hyb HY HB
                      go_wp2_with fail
                      refine HB1.out.mono ?_
                      rintro e w' ⟨rfl, rfl⟩
                      go_wp2_with fail
                      refine HYA.out.mono ?_
                      rintro e w' ⟨rfl, rfl⟩
                      go_wp2_with fail
                      go_ret
                      exact ⟨ret_bool hfin.out.symm, Below.refl _ _⟩
                    | false =>
                      rw [hya] at HYA hrf2
                      have hrt : Hid (L.rowFine us a b = true) := hrf2.out
                      clear hya hrf2 hnor
                      go_wp2_with fail
                      refine HB1.out.mono ?_
                      rintro e w' ⟨rfl, rfl⟩
                      go_wp2_with fail
                      refine HYA.out.mono ?_
                      rintro e w' ⟨rfl, rfl⟩
                      clear HB1 HYA
                      go_wp2_with fail
                      go_loopw [6] (fun i wr => ∃ c : Nat, c ≤ us.length ∧ i = .int .i64 c ∧ wr = w ∧ Hid (∀ e, e < c → L.onFine us a b e = true)) (fun i _ => us.length - (intOf i).toNat)
                      case atStart => exact ⟨0, by omega, rfl, rfl, fun e he => absurd he (Nat.not_lt_zero _)⟩
                      case round =>
                        obtain ⟨c, hc, rfl, rfl, hon⟩ := hrel
                        by_cases hcl : c < us.length
                        · have HY1 := Lib.hid (HY.out c (by omega))
                          have HB2 := Lib.hid (HB.out c (by omega))
                          have hofc : Hid (L.onFine us a b c = (!y.testBit c || x.testBit c)) := by unfold Hid; rw [hof.out, hxb.out b, hyb.out c, hxb.out c, hto.out]; rfl
                          have hnc : Hid (L.onFine us a b c = true → ∀ e, e < c + 1 → L.onFine us a b e = true) := fun h e he => by
                            by_cases q : e = c
                            · subst q; exact h
                            · exact hon.out e (by omega)
                          have hnoc : Hid (L.onFine us a b c = false → L.check us = false) := hnoo.out c hcl
                          clear hon
                          cases hyc : y.testBit c with
                          | false =>
                            rw [hyc] at HY1
                            have hn3 : Hid (∀ e, e < c + 1 → L.onFine us a b e = true) := hnc.out (by rw [hofc.out, hyc]; rfl)
                            clear hyc hofc hnc hnoc HB2
                            go_wp2_with fail
                            refine HY1.out.mono ?_
                            rintro e w' ⟨rfl, rfl⟩
                            go_wp2_with fail
                            go_roundw
                            case rel => exact ⟨c + 1, by omega, by go_num, trivial, hn3⟩
                            case measure => simp [intOf]; omega
                          | true =>
                            rw [hyc] at HY1
                            cases hxc : x.testBit c with
                            | true =>
                              rw [hxc] at HB2
                              have hn3 : Hid (∀ e, e < c + 1 → L.onFine us a b e = true) := hnc.out (by rw [hofc.out, hxc]; simp)
                              clear hyc hxc hofc hnc hnoc
                              go_wp2_with fail
                              refine HY1.out.mono ?_
                              rintro e w' ⟨rfl, rfl⟩
                              go_wp2_with fail
                              refine HB2.out.mono ?_
                              rintro e w' ⟨rfl, rfl⟩
                              go_wp2_with fail
                              go_roundw
                              case rel => exact ⟨c + 1, by omega, by go_num, trivial, hn3⟩
                              case measure => simp [intOf]; omega
                            | false =>
                              rw [hxc] at HB2
                              have hfin : Hid (L.check us = false) := hnoc.out (by rw [hofc.out, hyc, hxc]; rfl)
                              clear hyc hxc hofc hnc hnoc
                              go_wp2_with fail
                              refine HY1.out.mono ?_
                              rintro e w' ⟨rfl, rfl⟩
                              go_wp2_with fail
                              refine HB2.out.mono ?_
                              rintro e w' ⟨rfl, rfl⟩
                              go_wp2_with fail
                              go_ret
                              exact ⟨ret_bool hfin.out.symm, Below.refl _ _⟩
                        · have hn2 : Hid (∀ d, d < b + 1 → L.rowFine us a d = true ∧ ∀ e, e < us.length → L.onFine us a d e = true) := hnext.out hrt.out (fun e he => hon.out e (by omega))
                          obtain rfl : c = us.length := by omega
                          clear hon hcl hc hnext hnoo hof
                          go_wp2_with fail
                          go_round
                          case rel => exact ⟨b + 1, by omega, by go_num, hn2⟩
                          case measure => simp [intOf]; omega
                · have dn : decide ((us.length : Int) ≤ (b : Int)) = true := by simp; omega
                  have dnn : decide (us.length ≤ b) = true := by simp; omega
                  have hfin : Hid (L.check us = false) := hnor.out (by rw [hrf.out, hxb.out b, hto, dnn]; rfl)
                  clear hnor hnoo hof hnext hrf hxb hto HB hcu
                  go_wp2_with fail
                  refine HB1.out.mono ?_
                  rintro e w' ⟨rfl, rfl⟩
                  go_wp2_with fail
                  go_ret
                  exact ⟨ret_bool hfin.out.symm, Below.refl _ _⟩
            · obtain rfl : b = 64 := by omega
              have hn2 : Hid (∀ c d, c < a + 1 → d < 64 → L.rowFine us c d = true ∧ ∀ e, e < us.length → L.onFine us c d e = true) := fun c d hc hd => by
                by_cases e : c = a
                · subst e; exact hrow.out d hd
                · exact hall.out c d (by omega) hd
              clear hall hrow hbl hb
              go_wp2_with fail
              go_round
              case rel => exact ⟨a + 1, by omega, by go_num, hn2⟩
              case measure => simp [intOf]; omega
        · obtain rfl : a = us.length := by omega
          have hyes : Hid ((∀ c d, c < us.length → d < c → L.bounded us c d = true) → L.check us = true) := fun h => L.check_yes HU2.out H1.out H64.out (fun c d hc hd => (hall.out c d hc hd).1) (fun c d e hc hd he => (hall.out c d hc hd).2 e he) h
          clear hall hal ha
          go_wp2_with fail
          go_loopw [8] (fun i wr => ∃ a : Nat, a ≤ us.length ∧ i = .int .i64 a ∧ Below w.heap.size w wr ∧ Hid (∀ c d, c < a → d < c → L.bounded us c d = true)) (fun i _ => us.length - (intOf i).toNat)
          case atStart => exact ⟨0, by omega, rfl, Below.refl _ _, fun c d hc => absurd hc (Nat.not_lt_zero _)⟩
          case round =>
            obtain ⟨a, ha, rfl, hbr, hall⟩ := hrel
            by_cases hal : a < us.length
            · go_wp2_with fail
              go_loopw [9] (fun i wr => ∃ b : Nat, b ≤ a ∧ i = .int .i64 b ∧ Below w.heap.size w wr ∧ Hid (∀ d, d < b → L.bounded us a d = true)) (fun i _ => us.length - (intOf i).toNat)
              case atStart => exact ⟨0, by omega, rfl, hbr, fun d hd => absurd hd (Nat.not_lt_zero _)⟩
              case round =>
                clear hbr
                obtain ⟨b, hb, rfl, hbr, hrow⟩ := hrel
                by_cases hbl : b < a
                · have hlt : (b : Int) < (a : Int) := by omega
                  have HJ := Lib.hid (refJoin_any _ us a b _ (HV.out.below hbr) HU.out)
                  have HM := Lib.hid (refMeet_any _ us a b _ (HV.out.below hbr) HU.out)
                  have hpf : Hid (L.bounded us a b = !(decide (L.join us a b < 0) || decide (L.meet us a b < 0))) := rfl
                  have hno : Hid (L.bounded us a b = false → L.check us = false) := L.check_no_bound hal hbl
                  have hyes1 : Hid (L.bounded us a b = true → ∀ d, d < b + 1 → L.bounded us a d = true) := fun h d hd => by
                    by_cases e : d = b
                    · subst e; exact h
                    · exact hrow.out d (by omega)
                  clear hrow
                  go_wp2_with fail
                  refine HJ.out.mono ?_
                  rintro e w3 ⟨rfl, rfl⟩
                  clear HJ
                  obtain ⟨j, hj⟩ : ∃ j, L.join us a b = j := ⟨_, rfl⟩
                  rw [hj] at hpf ⊢
                  clear hj
                  by_cases hj0 : j < 0
                  · have dj : decide (j < 0) = true := by simp; omega
                    have hfin : Hid (L.check us = false) := hno.out (by rw [hpf.out, dj]; rfl)
                    clear hpf hno hyes hyes1 HM hall
                    go_wp2_with fail
                    go_ret
                    exact ⟨ret_bool hfin.out.symm, hbr⟩
                  · have dj : decide (j < 0) = false := by simp; omega
                    have hpf3 : Hid (L.bounded us a b = !decide (L.meet us a b < 0)) := by unfold Hid; rw [hpf.out, dj]; rfl
                    clear hpf
                    go_wp2_with fail
                    refine HM.out.mono ?_
                    rintro e w4 ⟨rfl, hb4⟩
                    replace hbr := below_next hbr hb4
                    clear HM hb4
                    obtain ⟨m, hm⟩ : ∃ m, L.meet us a b = m := ⟨_, rfl⟩
                    rw [hm] at hpf3 ⊢
                    clear hm
                    by_cases hm0 : m < 0
                    · have dm : decide (m < 0) = true := by simp; omega
                      have hfin : Hid (L.check us = false) := hno.out (by rw [hpf3.out, dm]; rfl)
                      clear hpf3 hno hyes hyes1 hall
                      go_wp2_with fail
                      go_ret
                      exact ⟨ret_bool hfin.out.symm, hbr⟩
                    · have dm : decide (m < 0) = false := by simp; omega
                      have hnext : Hid (∀ d, d < b + 1 → L.bounded us a d = true) := hyes1.out (by rw [hpf3.out, dm]; rfl)
                      clear hpf3 hno hyes1
                      go_wp2_with fail
                      go_roundw
                      case rel => exact ⟨b + 1, by omega, by go_num, hbr, hnext⟩
                      case measure => simp [intOf]; omega
                · obtain rfl : b = a := by omega
                  have hnext : Hid (∀ c d, c < b + 1 → d < c → L.bounded us c d = true) := fun c d hc hd => by
                    by_cases e : c = b
                    · subst e; exact hrow.out d hd
                    · exact hall.out c d (by omega) hd
                  clear hall hrow hbl hb
                  go_wp2_with fail
                  go_roundw
                  case rel => exact ⟨b + 1, by omega, by go_num, hbr, hnext⟩
                  case measure => simp [intOf]; omega
            · obtain rfl : a = us.length := by omega
              have hfin : Hid (L.check us = true) := hyes.out hall.out
              clear hall hal ha hyes
              go_wp2_with fail
              go_ret
              exact ⟨ret_bool hfin.out.symm, hbr⟩
    · have d2 : decide ((64 : Int) < (us.length : Int)) = true := by simp; omega
      have hfin := Lib.hid (L.check_size (us := us) fun h => h64 h.2)
      clear h1 h64 hv hu
      go_enter Tryd.func36, Tryd.ntmps36
      go_wp2_with fail
      go_ret
      exact ⟨ret_bool hfin.out.symm, Below.refl _ _⟩
  · have d1 : decide ((us.length : Int) < 1) = true := by simp; omega
    have hfin := Lib.hid (L.check_size (us := us) fun h => h1 h.1)
    clear h1 hv hu
    go_enter Tryd.func36, Tryd.ntmps36
    go_wp2_with fail
    go_ret
    exact ⟨ret_bool hfin.out.symm, Below.refl _ _⟩
end Go.Proofs.YtljpfocmnppjgaaDoor
