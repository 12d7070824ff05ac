/- What jalousieref03.Close returns. -/
import Derived.Test.YtnfhhhcbgipmcaaDoorClose
import Derived.Test.YtnfhhhcbgipmcaaDoorRefClosePlain
import Derived.Deep.LoopGhost
namespace Go.Proofs.YtnfhhhcbgipmcaaDoor
open Go Go.RowKit

theorem u64Cells_zero (n : Nat) : u64Cells (List.replicate n 0) = List.replicate n (.int .u64 0) := by simp [u64Cells]

theorem wrap_small {x : Nat} (h : x < 18446744073709551616) : IntKind.u64.wrap (x : Int) = (x : Int) := by rw [IntKind.wrap_u64]; omega

theorem wrap_add_pow {q b q1 : Nat} (h : q1 = q + 2 ^ b) (hl : q1 < 18446744073709551616) : IntKind.u64.wrap ((q : Int) + 2 ^ b) = (q1 : Int) := by
  have e : (q : Int) + 2 ^ b = (q1 : Int) := by rw [h, Int.natCast_add, Int.natCast_pow]; rfl
  rw [e]
  exact wrap_small hl

set_option maxRecDepth 4000 in
set_option maxHeartbeats 1000000 in
theorem refClose_any (v : Value) (us : List Nat) (w : World) (hv : Us w v us) (hu : U64s us) :
    Calls Tryd.prog 27 #[v] w fun e w' => ∃ v', e = .returned v' ∧ w'.ownsRow w.heap.size 25 1 v' (L.closeOr us).length (u64Cells (L.closeOr us)) ∧ Below w.heap.size w w' := by
  obtain ⟨ao, cap, rfl, -⟩ := hv.shape
  by_cases h64 : us.length ≤ 64
  · have hd : decide ((64 : Int) < (us.length : Int)) = false := by simp; omega
    have HFIN := Lib.hid (L.closeOr_short h64)
    have hlen64 := h64
    have HV := Lib.hid hv
    have HU := Lib.hid hu
    have hp64 := pow_le64 h64
    clear hv hu h64
    go_enter Tryd.func27, Tryd.ntmps27
    go_wp2_with (at_make; go_must (refine wpList_make_sl rfl _ _ 22 rfl w.heap.size 25 (.int .u64 0) 1 8 Tryd.underlying22 infoU64 _ _ us.length rfl rfl (by omega) (by unfold maxLen; omega) (Nat.le_refl _) ?_))
    intro w1 hown hgrow
    have hb1 := (Below.refl w.heap.size w).grown hgrow (Nat.le_refl _) (by simp)
    obtain ⟨g, hg⟩ : ∃ g, w.heap.size = g := ⟨_, rfl⟩
    have hr1 : Hid (w1.ownsRow w.heap.size 25 1 (.slice (some ⟨g, 0, none⟩) us.length us.length) us.length (u64Cells (L.fill us 0 0))) := by
      unfold Hid
      rw [toList_madeCells_one] at hown
      rw [L.fill_zero, u64Cells_zero, ← hg]
      exact hown
    have hbg : w.heap.size ≤ g := Nat.le_of_eq hg
    rw [hg]
    clear hown hgrow hg
    go_wp2_with fail
    go_loopw [4] (fun i wr => ∃ a : Nat, a ≤ us.length ∧ i = .int .i64 a ∧ Hid (wr.ownsRow w.heap.size 25 1 (.slice (some ⟨g, 0, none⟩) us.length us.length) us.length (u64Cells (L.fill us a 0))) ∧ Below w.heap.size w wr) (fun i _ => us.length - (intOf i).toNat)
    case atStart => exact ⟨0, by omega, rfl, hr1, hb1⟩
    case round =>
      clear hr1 hb1
      obtain ⟨a, ha, rfl, hr, hbr⟩ := hrel
      by_cases hal : a < us.length
      · go_wp2_with fail
        go_loopw [5] (fun i wr => ∃ b : Nat, b ≤ us.length ∧ i = .int .i64 b ∧ Hid (wr.ownsRow w.heap.size 25 1 (.slice (some ⟨g, 0, none⟩) us.length us.length) us.length (u64Cells (L.fill us a b))) ∧ Below w.heap.size w wr) (fun i _ => us.length - (intOf i).toNat)
        case atStart => exact ⟨0, by omega, rfl, hr, hbr⟩
        case round =>
          clear hr hbr
          obtain ⟨b, hb, rfl, hr, hbr⟩ := hrel
          by_cases hbl : b < us.length
          · obtain ⟨bk, off, rfl, hcu⟩ := (HV.out.below hbr).at hal
            have hcx := hcu a hal
            have hx64 := HU.out.getD a
            have hca := own_cell hr.out a (by rw [L.fill_length]; exact hal)
            rw [L.fill_here hal] at hca
            have hfa := hr.out.frozenAt a
            have hs := Lib.hid (L.fill_set (us := us) (a := a) (b := b))
            have hn := Lib.hid (ofBits_succ b (L.wants us a))
            have hlt1 := Nat.lt_of_lt_of_le (ofBits_lt (b + 1) (L.wants us a)) (Nat.le_trans (Nat.pow_le_pow_right (by decide) (show b + 1 ≤ us.length by omega)) hp64)
            have hk : Hid (L.wants us a b = false → L.fill us a (b + 1) = L.fill us a b) := L.fill_skip
            have hia : (a : Int) < (us.length : Int) := by omega
            have hwd : Hid (L.wants us a b = (a == b || (us.getD a 0).testBit b)) := rfl
            have HBit := Lib.hid (fun w => refBit_any (us.getD a 0) b hx64 (by omega) w)
            have HOne := Lib.hid (fun w => refOne_any b (by omega) w)
            obtain ⟨x, hx⟩ : ∃ x, us.getD a 0 = x := ⟨_, rfl⟩
            rw [hx] at hcx HBit hwd hx64
            obtain ⟨q, hq⟩ : ∃ q, ofBits b (L.wants us a) = q := ⟨_, rfl⟩
            rw [hq] at hca hn
            obtain ⟨q1, hq1⟩ : ∃ q1, ofBits (b + 1) (L.wants us a) = q1 := ⟨_, rfl⟩
            rw [hq1] at hs hn hlt1
            clear hcu hx hq hq1
            by_cases hab : a = b
            · have hd1 : ((a : Int) == (b : Int)) = true := by rw [beq_iff_eq]; omega
              have hn1 : Hid (q1 = q + 2 ^ b) := by
                unfold Hid; rw [hn.out, hwd.out, show (a == b) = true by simp [hab]]; rfl
              clear hn hwd hab hk HBit
              go_wp2_with fail
              refine wp_region_still_tail 8 (by kernel_rfl) (by kernel_rfl) ?_
              simp only [List.take_succ_cons, List.take_zero, List.drop_succ_cons, List.drop_zero]
              still_step
              still_step
              still_step
              still_step
              still_step
              still_call ((HOne.out _).mono fun e w' ⟨h1, h2⟩ => ⟨h1, h2.symm⟩)
              still_step
              still_step
              refine wpStill_nil ?_
              change wpList _ _ _ _ _ wr.drew
              have hbr' : Below w.heap.size w wr.drew := hbr.drew
              have hr' : Hid (wr.drew.ownsRow w.heap.size 25 1 (.slice (some ⟨g, 0, none⟩) us.length us.length) us.length (u64Cells (L.fill us a b))) := hr
              clear hbr hr
              change wr.drew.cell? _ = _ at hca
              change wr.drew.frozen? _ = _ at hfa
              generalize wr.drew = w3 at *
              go_wp2_with fail
              rw [wrap_add_pow hn1.out hlt1]
              go_roundw
              case rel =>
                refine ⟨b + 1, by omega, by go_num, ?_, hbr'.setCell hbg _⟩
                unfold Hid
                rw [← hs.out]
                exact own_store hr'.out a _
              case measure => simp [intOf]; omega
            · have hd1 : ((a : Int) == (b : Int)) = false := by rw [beq_eq_false_iff_ne]; omega
              have hab' : (a == b) = false := by rw [beq_eq_false_iff_ne]; exact hab
              rw [hab', Bool.false_or] at hwd
              clear hab hab'
              cases hbit : x.testBit b with
              | false =>
                rw [hbit] at HBit hwd
                have hr2 : Hid (wr.ownsRow w.heap.size 25 1 (.slice (some ⟨g, 0, none⟩) us.length us.length) us.length (u64Cells (L.fill us a (b + 1)))) := by
                  unfold Hid; rw [hk.out hwd.out]; exact hr.out
                clear hbit hk hwd hn hs hr
                go_wp2_with fail
                refine (HBit.out wr).mono ?_
                rintro e w' ⟨rfl, rfl⟩
                go_wp2_with fail
                go_roundw
                case rel => exact ⟨b + 1, by omega, by go_num, hr2, hbr⟩
                case measure => simp [intOf]; omega
              | true =>
                rw [hbit] at HBit hwd
                have hn1 : Hid (q1 = q + 2 ^ b) := by
                  unfold Hid; rw [hn.out, hwd.out]; rfl
                clear hbit hk hwd hn
                go_wp2_with fail
                refine (HBit.out wr).mono ?_
                rintro e w' ⟨rfl, rfl⟩
                go_wp2_with fail
                refine wp_region_still_tail 8 (by kernel_rfl) (by kernel_rfl) ?_
                simp only [List.take_succ_cons, List.take_zero, List.drop_succ_cons, List.drop_zero]
                still_step
                still_step
                still_step
                still_step
                still_step
                still_call ((HOne.out _).mono fun e w' ⟨h1, h2⟩ => ⟨h1, h2.symm⟩)
                still_step
                still_step
                refine wpStill_nil ?_
                change wpList _ _ _ _ _ wr.drew
                have hbr' : Below w.heap.size w wr.drew := hbr.drew
                have hr' : Hid (wr.drew.ownsRow w.heap.size 25 1 (.slice (some ⟨g, 0, none⟩) us.length us.length) us.length (u64Cells (L.fill us a b))) := hr
                clear hbr hr
                change wr.drew.cell? _ = _ at hca
                change wr.drew.frozen? _ = _ at hfa
                generalize wr.drew = w3 at *
                go_wp2_with fail
                rw [wrap_add_pow hn1.out hlt1]
                go_roundw
                case rel =>
                  refine ⟨b + 1, by omega, by go_num, ?_, hbr'.setCell hbg _⟩
                  unfold Hid
                  rw [← hs.out]
                  exact own_store hr'.out a _
                case measure => simp [intOf]; omega
          · obtain rfl : b = us.length := by omega
            have hr2 : Hid (wr.ownsRow w.heap.size 25 1 (.slice (some ⟨g, 0, none⟩) us.length us.length) us.length (u64Cells (L.fill us (a + 1) 0))) := by
              unfold Hid; rw [← L.fill_next]; exact hr.out
            clear hr hbl hb
            go_wp2_with fail
            go_roundw
            case rel => exact ⟨a + 1, by omega, by go_num, hr2, hbr⟩
            case measure => simp [intOf]; omega
      · obtain rfl : a = us.length := by omega
        have hr2 : Hid (wr.ownsRow w.heap.size 25 1 (.slice (some ⟨g, 0, none⟩) us.length us.length) us.length (u64Cells (L.startTo us us.length))) := by
          unfold Hid; rw [← L.fill_all]; exact hr.out
        have HM := Lib.hid (L.start_mid us)
        clear hr hal ha HU HV
        generalize L.startTo us us.length = m0 at *
        go_wp2_with fail
        go_loopg [6] (2 * L.pot us m0 + 1) (fun gg m wr => ∃ (ms : List Nat) (mb : Bool), m = .bool mb ∧ Hid (wr.ownsRow w.heap.size 25 1 (.slice (some ⟨g, 0, none⟩) us.length us.length) us.length (u64Cells ms)) ∧ Below w.heap.size w wr ∧ Hid (L.Mid us ms) ∧ Hid (2 * L.pot us ms + (if mb then 1 else 0) ≤ gg) ∧ Hid (mb = false → ms = L.close us))
        case atStart => exact ⟨m0, true, rfl, hr2, hbr, HM, Nat.le_refl _, fun h => (by cases h)⟩
        case round =>
          clear hr2 hbr HM
          obtain ⟨ms, mb, rfl, hr, hbr, HM, HP, HZ⟩ := hrel
          cases mb with
          | false =>
            have hr1 : Hid (wr.ownsRow w.heap.size 25 1 (.slice (some ⟨g, 0, none⟩) us.length us.length) (L.closeOr us).length (u64Cells (L.closeOr us))) := by
              unfold Hid; rw [HFIN.out, L.close_length, ← HZ.out rfl]; exact hr.out
            clear hr HM HP HZ
            go_wp2_with fail
            go_ret
            exact ⟨_, rfl, hr1.out, hbr⟩
          | true =>
            have HP1 : Hid (2 * L.pot us ms + 1 ≤ gk) := HP.out
            have HPass : Hid (L.Pass us ms ms false (L.doneA 0)) := L.Pass.start HM.out
            clear HP HM HZ
            go_wp2_with fail
            go_loopw [6, 7] (fun m i wr => ∃ (ns : List Nat) (nb : Bool) (a : Nat), a ≤ us.length ∧ i = .int .i64 a ∧ m = .bool nb ∧ Hid (wr.ownsRow w.heap.size 25 1 (.slice (some ⟨g, 0, none⟩) us.length us.length) us.length (u64Cells ns)) ∧ Below w.heap.size w wr ∧ Hid (L.Pass us ms ns nb (L.doneA a))) (fun _ i _ => us.length - (intOf i).toNat)
            case atStart => exact ⟨ms, false, 0, by omega, rfl, rfl, hr, hbr, HPass⟩
            case round =>
              clear hr hbr HPass
              obtain ⟨ns, nb, a, ha, rfl, rfl, hr, hbr, HPass⟩ := hrel
              by_cases hal : a < us.length
              · have HPB : Hid (L.Pass us ms ns nb (L.doneB a 0)) := HPass.out.toB
                clear HPass
                go_wp2_with fail
                go_loopw [6, 8] (fun m i wr => ∃ (ns : List Nat) (nb : Bool) (b : Nat), b ≤ us.length ∧ i = .int .i64 b ∧ m = .bool nb ∧ Hid (wr.ownsRow w.heap.size 25 1 (.slice (some ⟨g, 0, none⟩) us.length us.length) us.length (u64Cells ns)) ∧ Below w.heap.size w wr ∧ Hid (L.Pass us ms ns nb (L.doneB a b))) (fun _ i _ => us.length - (intOf i).toNat)
                case atStart => exact ⟨ns, nb, 0, by omega, rfl, rfl, hr, hbr, HPB⟩
                case round =>
                  clear hr hbr HPB
                  obtain ⟨ns, nb, b, hb, rfl, rfl, hr, hbr, HPB⟩ := hrel
                  by_cases hbl : b < us.length
                  · have HPC : Hid (L.Pass us ms ns nb (L.doneC a b 0)) := HPB.out.toC
                    clear HPB
                    go_wp2_with fail
                    go_loopw [6, 9] (fun m i wr => ∃ (ns : List Nat) (nb : Bool) (c : Nat), c ≤ us.length ∧ i = .int .i64 c ∧ m = .bool nb ∧ Hid (wr.ownsRow w.heap.size 25 1 (.slice (some ⟨g, 0, none⟩) us.length us.length) us.length (u64Cells ns)) ∧ Below w.heap.size w wr ∧ Hid (L.Pass us ms ns nb (L.doneC a b c))) (fun _ i _ => us.length - (intOf i).toNat)
                    case atStart => exact ⟨ns, nb, 0, by omega, rfl, rfl, hr, hbr, HPC⟩
                    case round =>
                      clear hr hbr HPC
                      obtain ⟨ns, nb, c, hc, rfl, rfl, hr, hbr, HPC⟩ := hrel
                      by_cases hcl : c < us.length
                      · have hl := HPC.out.mid.length
                        have hca := own_cell hr.out a (by rw [hl]; exact hal)
                        have hcb := own_cell hr.out b (by rw [hl]; exact hbl)
                        have hfa := hr.out.frozenAt a
                        have hxl := Nat.lt_of_lt_of_le (HPC.out.mid.small a hal) hp64
                        have hyl := Nat.lt_of_lt_of_le (HPC.out.mid.small b hbl) hp64
                        have hia : (a : Int) < (us.length : Int) := by omega
                        have hib : (b : Int) < (us.length : Int) := by omega
                        have HB1 := Lib.hid (fun w => refBit_any (ns.getD a 0) b hxl (by omega) w)
                        have HB2 := Lib.hid (fun w => refBit_any (ns.getD b 0) c hyl (by omega) w)
                        have HB3 := Lib.hid (fun w => refBit_any (ns.getD a 0) c hxl (by omega) w)
                        have HOne := Lib.hid (fun w => refOne_any c (by omega) w)
                        have HS : Hid ((L.bit ns a b = true → L.bit ns b c = true → L.bit ns a c = true) → L.Pass us ms ns nb (L.doneC a b (c + 1))) := fun h => HPC.out.skip h
                        have HT : Hid (L.bit ns a b = true → L.bit ns b c = true → L.bit ns a c = false → L.Pass us ms (ns.set a (ns.getD a 0 + 2 ^ c)) true (L.doneC a b (c + 1)) ∧ ns.getD a 0 + 2 ^ c < 18446744073709551616) := fun h1 h2 h3 => ⟨HPC.out.more hal hbl hcl h1 h2 h3, Nat.lt_of_lt_of_le (HPC.out.mid.more hal hbl hcl h1 h2 h3).2.1 hp64⟩
                        unfold L.bit at HS HT
                        obtain ⟨x, hx⟩ : ∃ x, ns.getD a 0 = x := ⟨_, rfl⟩
                        obtain ⟨y, hy⟩ : ∃ y, ns.getD b 0 = y := ⟨_, rfl⟩
                        rw [hx] at hca hxl HB1 HB3 HS HT
                        rw [hy] at hcb hyl HB2 HS HT
                        clear hx hy hl HPC
                        cases h1 : x.testBit b with
                        | false =>
                          rw [h1] at HB1
                          have HS1 : Hid (L.Pass us ms ns nb (L.doneC a b (c + 1))) := HS.out fun h => (by rw [h1] at h; cases h)
                          clear h1 HS HT HB2 HB3 HOne
                          go_wp2_with fail
                          refine (HB1.out wr).mono ?_
                          rintro e w' ⟨rfl, rfl⟩
                          go_wp2_with fail
                          go_roundw
                          case rel => exact ⟨ns, nb, c + 1, by omega, by go_num, rfl, hr, hbr, HS1⟩
                          case measure => simp [intOf]; omega
                        | true =>
                          rw [h1] at HB1
                          cases h2 : y.testBit c with
                          | false =>
                            rw [h2] at HB2
                            have HS1 : Hid (L.Pass us ms ns nb (L.doneC a b (c + 1))) := HS.out fun _ h => (by rw [h2] at h; cases h)
                            clear h1 h2 HS HT HB3 HOne
                            go_wp2_with fail
                            refine (HB1.out wr).mono ?_
                            rintro e w' ⟨rfl, rfl⟩
                            go_wp2_with fail
                            refine (HB2.out wr).mono ?_
                            rintro e w' ⟨rfl, rfl⟩
                            go_wp2_with fail
                            go_roundw
                            case rel => exact ⟨ns, nb, c + 1, by omega, by go_num, rfl, hr, hbr, HS1⟩
                            case measure => simp [intOf]; omega
                          | true =>
                            rw [h2] at HB2
                            cases h3 : x.testBit c with
                            | true =>
                              rw [h3] at HB3
                              have HS1 : Hid (L.Pass us ms ns nb (L.doneC a b (c + 1))) := HS.out fun _ _ => h3
                              clear h1 h2 h3 HS HT HOne
                              go_wp2_with fail
                              refine (HB1.out wr).mono ?_
                              rintro e w' ⟨rfl, rfl⟩
                              go_wp2_with fail
                              refine (HB2.out wr).mono ?_
                              rintro e w' ⟨rfl, rfl⟩
                              go_wp2_with fail
                              refine (HB3.out wr).mono ?_
                              rintro e w' ⟨rfl, rfl⟩
                              go_wp2_with fail
                              go_roundw
                              case rel => exact ⟨ns, nb, c + 1, by omega, by go_num, rfl, hr, hbr, HS1⟩
                              case measure => simp [intOf]; omega
                            | false =>
                              rw [h3] at HB3
                              have HT1 : Hid (L.Pass us ms (ns.set a (x + 2 ^ c)) true (L.doneC a b (c + 1))) := (HT.out h1 h2 h3).1
                              have hq := (HT.out h1 h2 h3).2
                              obtain ⟨q1, hn1⟩ : ∃ q1, q1 = x + 2 ^ c := ⟨_, rfl⟩
                              rw [← hn1] at HT1 hq
                              replace hn1 := Lib.hid hn1
                              clear h1 h2 h3 HS HT
                              go_wp2_with fail
                              refine (HB1.out wr).mono ?_
                              rintro e w' ⟨rfl, rfl⟩
                              go_wp2_with fail
                              refine (HB2.out wr).mono ?_
                              rintro e w' ⟨rfl, rfl⟩
                              go_wp2_with fail
                              refine (HB3.out wr).mono ?_
                              rintro e w' ⟨rfl, rfl⟩
                              clear HB1 HB2 HB3
                              go_wp2_with fail
                              refine wp_region_still_tail 8 (by kernel_rfl) (by kernel_rfl) ?_
                              simp only [List.take_succ_cons, List.take_zero, List.drop_succ_cons, List.drop_zero]
                              still_step
                              still_step
                              still_step
                              still_step
                              still_step
                              still_call ((HOne.out _).mono fun e w' ⟨h1, h2⟩ => ⟨h1, h2.symm⟩)
                              still_step
                              still_step
                              refine wpStill_nil ?_
                              change wpList _ _ _ _ _ wr.drew
                              have hbr' : Below w.heap.size w wr.drew := hbr.drew
                              have hr' : Hid (wr.drew.ownsRow w.heap.size 25 1 (.slice (some ⟨g, 0, none⟩) us.length us.length) us.length (u64Cells ns)) := hr
                              clear hbr hr
                              change wr.drew.cell? _ = _ at hca
                              change wr.drew.frozen? _ = _ at hfa
                              generalize wr.drew = w3 at *
                              go_wp2_with fail
                              rw [wrap_add_pow hn1.out hq]
                              go_roundw
                              case rel =>
                                exact ⟨ns.set a q1, true, c + 1, by omega, by go_num, rfl, own_store hr'.out a _, hbr'.setCell hbg _, HT1⟩
                              case measure => simp [intOf]; omega
                      · obtain rfl : c = us.length := by omega
                        have HPB : Hid (L.Pass us ms ns nb (L.doneB a (b + 1))) := HPC.out.fromC
                        clear hcl hc HPC
                        go_wp2_with fail
                        go_roundw
                        case rel => exact ⟨ns, nb, b + 1, by omega, by go_num, rfl, hr, hbr, HPB⟩
                        case measure => simp [intOf]; omega
                  · obtain rfl : b = us.length := by omega
                    have HPA : Hid (L.Pass us ms ns nb (L.doneA (a + 1))) := HPB.out.fromB
                    clear hbl hb HPB
                    go_wp2_with fail
                    go_roundw
                    case rel => exact ⟨ns, nb, a + 1, by omega, by go_num, rfl, hr, hbr, HPA⟩
                    case measure => simp [intOf]; omega
              · obtain rfl : a = us.length := by omega
                have HM : Hid (L.Mid us ns) := HPass.out.mid
                have HZ : Hid (nb = false → ns = L.close us) := fun h => (h ▸ HPass.out).closed
                have HQ : Hid (2 * L.pot us ns + (if nb then 1 else 0) < gk) := by
                  have h1 := HP1.out
                  cases nb with
                  | false => obtain ⟨h, -⟩ := HPass.out.calm rfl; rw [h]; exact h1
                  | true => have := HPass.out.pot_lt; unfold Hid; rw [if_pos rfl]; omega
                clear hal ha HPass HP1
                go_wp2_with fail
                go_roundg (2 * L.pot us ns + (if nb then 1 else 0))
                case measure => exact HQ.out
                case rel => exact ⟨ns, nb, rfl, hr, hbr, HM, Nat.le_refl _, HZ⟩
  · have hd : decide ((64 : Int) < (us.length : Int)) = true := by simp; omega
    have HFIN := Lib.hid (L.closeOr_long h64)
    clear h64 hv hu
    go_enter Tryd.func27, Tryd.ntmps27
    go_wp2_with fail
    go_ret
    refine ⟨_, rfl, ?_, Below.refl _ _⟩
    rw [HFIN.out]
    exact World.ownsRow_nil _ _ _ _
end Go.Proofs.YtnfhhhcbgipmcaaDoor
