/- GrantsGrow returns true. -/
import Derived.Test.YtnfhhhcbgipmcaaDoorAwFour
import Derived.Test.YtnfhhhcbgipmcaaDoorRefCheck
namespace Go.Proofs.YtnfhhhcbgipmcaaDoor
open Go Go.RowKit

namespace L
theorem Src.more {us : List Nat} {l l' : List Gr} {s i : Nat} (hl : ∀ g ∈ l, g ∈ l') (h : Src us l s i) : Src us l' s i := by
  induction h with
  | base hb h => exact .base hb h
  | flow _ ha hf ih => exact .flow ih ha hf
  | actor hg hf _ ih => exact .actor (hl _ hg) hf ih
  | source hg hf _ ih => exact .source (hl _ hg) hf ih
theorem srcs_or {us : List Nat} {l l' : List Gr} {s : Nat} (hl : ∀ g ∈ l, g ∈ l') : srcs us l s ||| srcs us l' s = srcs us l' s := by
  apply Nat.eq_of_testBit_eq
  intro i
  rw [Nat.testBit_or]
  cases h : (srcs us l s).testBit i with
  | false => rfl
  | true => rw [testBit_srcs.2 ((testBit_srcs.1 h).more hl)]; rfl
theorem srcs_again (us : List Nat) (l : List Gr) (s : Nat) : srcs us l (srcs us l s) = srcs us l s := by
  refine (srcs_eq (fun i h => .base (testBit_srcs.1 h).lt h) (fun _ _ h => h) ⟨fun a b hb hab => ?_, fun g hg hf ht => ?_⟩).symm
  · exact testBit_srcs.2 (.flow (testBit_srcs.1 hb) (leq_ltL hab) hab)
  · exact ⟨testBit_srcs.2 (.actor hg hf (testBit_srcs.1 ht)), testBit_srcs.2 (.source hg hf (testBit_srcs.1 ht))⟩
/-- What may flow to some labels, by the labels in a row. -/
def downTo (us : List Nat) (s k : Nat) : Nat := orDowns us ((List.range k).filter s.testBit)
theorem downTo_succ (us : List Nat) (s k : Nat) : downTo us s (k + 1) = if s.testBit k then downTo us s k ||| down us k else downTo us s k := by
  unfold downTo
  rw [List.range_succ, List.filter_append, List.filter_cons]
  cases h : s.testBit k with
  | false => simp
  | true => simp [orDowns_snoc]
theorem srcs_none {us : List Nat} (h : Lat us) (s : Nat) : downTo us s us.length = srcs us [] s := by
  have hb : ∀ i, (downTo us s us.length).testBit i = true ↔ ∃ a : Nat, a < us.length ∧ s.testBit a = true ∧ leq us i a = true := fun i => by
    unfold downTo
    rw [testBit_orDowns, List.any_eq_true]
    constructor
    · rintro ⟨a, ha, hl⟩
      obtain ⟨h1, h2⟩ := List.mem_filter.1 ha
      exact ⟨a, List.mem_range.1 h1, h2, hl⟩
    · rintro ⟨a, h1, h2, hl⟩
      exact ⟨a, List.mem_filter.2 ⟨List.mem_range.2 h1, h2⟩, hl⟩
  refine srcs_eq (fun i hi => ?_) (fun b hb' hs => (hb b).2 ⟨b, hb', hs, leq_same h hb'⟩) ⟨fun a b hb' hab => ?_, fun g hg => (by cases hg)⟩
  · obtain ⟨a, h1, h2, hl⟩ := (hb i).1 hi
    exact .flow (.base h1 h2) (leq_ltL hl) hl
  · obtain ⟨c, h1, h2, hl⟩ := (hb b).1 hb'
    exact (hb a).2 ⟨c, h1, h2, leq_trans h hab hl⟩
end L

set_option maxRecDepth 4000 in
set_option maxHeartbeats 2000000 in
theorem grGrow_any (v : Value) (us : List Nat) (vl : Value) (l : List Gr) (s : Nat) (w : World) (hv : Us w v us) (hu : U64s us) (hl : Gs w vl l) (hs : s < 18446744073709551616) (ht : DTab w) :
    Calls Tryd.prog 11 #[v, vl, .int .u64 s] w fun e w' => e = .returned (.bool true) ∧ Below w.heap.size w w' := by
  obtain ⟨ao, cap, rfl, -⟩ := hv.shape
  obtain ⟨aol, capl, rfl, -⟩ := hl.shape
  have hbig := hv.len
  have hbigl := hl.len
  have HA := Lib.hid (aw4_any w ht)
  have HC := Lib.hid (fun (W : World) (hW : Below w.heap.size w W) => refCheck_any _ us W (hv.below hW) hu)
  by_cases h12 : 12 < us.length
  · have d0 : decide ((12 : Int) < (us.length : Int)) = true := by simp; omega
    clear h12 hv hl hu ht HC
    go_enter Tryd.func11, Tryd.ntmps11
    go_wp2_with fail
    refine HA.out.mono ?_
    rintro e w1 ⟨rfl, hb1⟩
    go_wp2_with fail
    go_ret
    exact ⟨rfl, hb1⟩
  · have d0 : decide ((12 : Int) < (us.length : Int)) = false := by simp; omega
    by_cases h60 : 60 < l.length
    · have d1 : decide ((60 : Int) < (l.length : Int)) = true := by simp; omega
      clear h12 h60 hv hl hu ht HC
      go_enter Tryd.func11, Tryd.ntmps11
      go_wp2_with fail
      refine HA.out.mono ?_
      rintro e w1 ⟨rfl, hb1⟩
      go_wp2_with fail
      go_ret
      exact ⟨rfl, hb1⟩
    · have d1 : decide ((60 : Int) < (l.length : Int)) = false := by simp; omega
      cases hck : L.check us with
      | false =>
        clear h12 h60 hv hl hu ht
        go_enter Tryd.func11, Tryd.ntmps11
        go_wp2_with fail
        refine HA.out.mono ?_
        rintro e w1 ⟨rfl, hbr⟩
        have s := Lib.hid (HC.out _ hbr)
        rw [hck] at s
        clear hck HC HA
        go_wp2_with fail
        refine s.out.mono ?_
        rintro e w2 ⟨rfl, hx⟩
        replace hbr := below_next hbr hx
        clear hx s
        go_wp2_with fail
        go_ret
        exact ⟨rfl, hbr⟩
      | true =>
        have hlat := L.check_iff.1 hck
        have HLat := Lib.hid hlat
        have h64 := hlat.few
        have HS := Lib.hid (fun (u : Value) (m : List Gr) (x : Nat) (W : World) (hx : x < 18446744073709551616) (hW : Below w.heap.size w W) (hm : Gs w u m) (hml : m.length ≤ 100000) => sources_any _ us u m x W (hv.below hW) hu (Three.Ss.below hm hW) hml hx hlat (ht.below hW))
        have HD := Lib.hid (fun (c : Int) (W : World) (hW : Below w.heap.size w W) => refDown_any _ us c W (hv.below hW) hu)
        have HG := Lib.hid hl
        have hSl : ∀ m, L.srcs us m s < 18446744073709551616 := fun m => L.p64 h64 (L.srcs_lt us m s)
        have HSl := Lib.hid hSl
        have hll : l.length ≤ 100000 := by omega
        clear hlat hv hu ht hl h12 h60 hSl
        go_enter Tryd.func11, Tryd.ntmps11
        go_wp2_with fail
        refine HA.out.mono ?_
        rintro e w1 ⟨rfl, hbr⟩
        have st := Lib.hid (HC.out _ hbr)
        rw [hck] at st
        clear hck HC HA
        go_wp2_with fail
        refine st.out.mono ?_
        rintro e w2 ⟨rfl, hx⟩
        replace hbr := below_next hbr hx
        clear hx st
        have st := Lib.hid (HS.out _ l s w2 hs hbr HG.out hll)
        obtain ⟨S, hSS⟩ : ∃ S, L.srcs us l s = S := ⟨_, rfl⟩
        rw [hSS] at st
        have HSS := Lib.hid hSS
        clear hSS
        by_cases hl0 : 0 < l.length
        · have d2 : decide ((0 : Int) < (l.length : Int)) = true := by simp; omega
          obtain ⟨vd, hvd, hrun⟩ := run_drop (P := Tryd.prog) (t := 44) Tryd.underlying44 infoGr HG.out .i64 1 hl0
          rw [GR.cells_drop] at hvd
          have HGd : Hid (Gs w vd (l.drop 1)) := by unfold Hid Gs Three.Ss; rw [List.length_drop]; exact hvd
          rw [show ((1 : Nat) : Int) = 1 from rfl] at hrun
          obtain ⟨T, hTT⟩ : ∃ T, L.srcs us (l.drop 1) s = T := ⟨_, rfl⟩
          have HT : T ||| S = S := by rw [← HSS.out, ← hTT]; exact L.srcs_or fun g hg => List.mem_of_mem_drop hg
          have HTS : Hid (T < 18446744073709551616) := by rw [← hTT]; exact HSl.out _
          have hld : (l.drop 1).length ≤ 100000 := by rw [List.length_drop]; omega
          have HTT := Lib.hid hTT
          clear hTT hvd
          go_wp2_with fail
          refine st.out.mono ?_
          rintro e w3 ⟨rfl, hx⟩
          replace hbr := below_next hbr hx
          clear hx st
          have st := Lib.hid (HS.out vd (l.drop 1) s w3 hs hbr HGd.out hld)
          rw [HTT.out] at st
          go_wp2_with fail
          refine st.out.mono ?_
          rintro e w4 ⟨rfl, hx⟩
          replace hbr := below_next hbr hx
          clear hx st hrun
          have HT2 : Hid (T ||| S = S) := HT
          have HN0 : Hid (L.srcs us [] s ||| S = S) := by unfold Hid; rw [← HSS.out]; exact L.srcs_or fun g hg => by cases hg
          have HDn : Hid (L.downTo us s us.length = L.srcs us [] s) := L.srcs_none HLat.out s
          have HAg : Hid (L.srcs us l S = S) := by unfold Hid; rw [← HSS.out]; exact L.srcs_again us _ s
          have hT64 : T < 18446744073709551616 := HTS.out
          have hS64 : S < 18446744073709551616 := by rw [← HSS.out]; exact HSl.out _
          have hN64 := HSl.out []
          have st := Lib.hid (HS.out (.slice none 0 0) [] s _ hs hbr (Three.Ss.nil _) (by decide))
          obtain ⟨N0, hN0⟩ : ∃ x, L.srcs us [] s = x := ⟨_, rfl⟩
          rw [hN0] at st HN0 HDn hN64
          clear hN0 HT
          go_wp2_with fail
          refine st.out.mono ?_
          rintro e w5 ⟨rfl, hx⟩
          replace hbr := below_next hbr hx
          clear hx st
          go_wp2_with fail
          go_loopw [11, 12] (fun t i wr => ∃ k : Nat, k ≤ us.length ∧ i = .int .i64 k ∧ t = .int .u64 (L.downTo us s k : Nat) ∧ Below w.heap.size w wr) (fun _ i _ => us.length - (intOf i).toNat)
          case atStart => exact ⟨0, by omega, rfl, rfl, hbr⟩
          case round =>
            clear hbr
            obtain ⟨k, hk, rfl, rfl, hbr⟩ := hrel
            by_cases hku : k < us.length
            · have HB1 := Lib.hid (fun w => refBit_any s k hs (by omega) w)
              have hsc := Lib.hid (L.downTo_succ us s k)
              have q1 : L.downTo us s k < 18446744073709551616 := L.orDowns_lt us _
              have q2 := L.down_lt us k
              have HDk := Lib.hid (HD.out k wr hbr)
              obtain ⟨d1, hd1⟩ : ∃ x, L.downTo us s k = x := ⟨_, rfl⟩
              obtain ⟨d2, hd2⟩ : ∃ x, L.down us k = x := ⟨_, rfl⟩
              rw [hd1] at hsc q1 ⊢
              rw [hd2] at hsc q2 HDk
              clear hd1 hd2
              cases hb : s.testBit k with
              | false =>
                rw [hb] at HB1 hsc
                rw [if_neg (by decide)] at hsc
                clear hb
                go_wp2_with fail
                refine (HB1.out wr).mono ?_
                rintro e w' ⟨rfl, rfl⟩
                go_wp2_with fail
                go_roundw
                case rel => exact ⟨k + 1, by omega, by go_num, by rw [hsc.out], hbr⟩
                case measure => simp [intOf]; omega
              | true =>
                rw [hb] at HB1 hsc
                rw [if_pos rfl] at hsc
                have hor := u64_or_nat d1 d2 q1 q2
                clear hb
                go_wp2_with fail
                refine (HB1.out wr).mono ?_
                rintro e w' ⟨rfl, rfl⟩
                go_wp2_with fail
                refine HDk.out.mono ?_
                rintro e w' ⟨rfl, rfl⟩
                go_wp2_with fail
                go_roundw
                case rel => exact ⟨k + 1, by omega, by go_num, by rw [hsc.out], hbr⟩
                case measure => simp [intOf]; omega
            · obtain rfl : k = us.length := by omega
              rw [HDn.out]
              have e1 : ((N0 : Int) == (N0 : Int)) = true := by simp
              have e2 : ((S : Int) == (S : Int)) = true := by simp
              have o1 : bits BinOp.or IntKind.u64 (S : Int) (N0 : Int) = (S : Int) := by rw [u64_or_nat S N0 hS64 hN64, Nat.or_comm, HN0.out]
              have o2 : bits BinOp.or IntKind.u64 (T : Int) (S : Int) = (S : Int) := by rw [u64_or_nat T S hT64 hS64, HT2.out]
              have st := Lib.hid (HS.out _ _ S wr hS64 hbr HG.out hll)
              rw [HAg.out] at st
              clear HDn HN0 HT2 HAg
              go_wp2_with fail
              refine st.out.mono ?_
              rintro e w6 ⟨rfl, hx⟩
              have hfin := Lib.hid (below_next hbr hx)
              clear hx st hbr
              go_wp2_with fail
              go_ret
              exact ⟨rfl, hfin.out⟩
        · have d2 : decide ((0 : Int) < (l.length : Int)) = false := by rw [decide_eq_false_iff_not]; omega
          obtain ⟨T, hT⟩ : ∃ T, S = T := ⟨_, rfl⟩
          have HT : T ||| S = S := by rw [hT]; exact Nat.or_self _
          have HTS : Hid (T < 18446744073709551616) := by rw [← hT, ← HSS.out]; exact HSl.out _
          go_wp2_with fail
          refine st.out.mono ?_
          rintro e w3 ⟨rfl, hx⟩
          replace hbr := below_next hbr hx
          clear hx st
          subst hT
          have HT2 : Hid (S ||| S = S) := HT
          have HN0 : Hid (L.srcs us [] s ||| S = S) := by unfold Hid; rw [← HSS.out]; exact L.srcs_or fun g hg => by cases hg
          have HDn : Hid (L.downTo us s us.length = L.srcs us [] s) := L.srcs_none HLat.out s
          have HAg : Hid (L.srcs us l S = S) := by unfold Hid; rw [← HSS.out]; exact L.srcs_again us _ s
          
          have hS64 : S < 18446744073709551616 := by rw [← HSS.out]; exact HSl.out _
          have hN64 := HSl.out []
          have st := Lib.hid (HS.out (.slice none 0 0) [] s _ hs hbr (Three.Ss.nil _) (by decide))
          obtain ⟨N0, hN0⟩ : ∃ x, L.srcs us [] s = x := ⟨_, rfl⟩
          rw [hN0] at st HN0 HDn hN64
          clear hN0 HT
          go_wp2_with fail
          refine st.out.mono ?_
          rintro e w5 ⟨rfl, hx⟩
          replace hbr := below_next hbr hx
          clear hx st
          go_wp2_with fail
          go_loopw [11, 12] (fun t i wr => ∃ k : Nat, k ≤ us.length ∧ i = .int .i64 k ∧ t = .int .u64 (L.downTo us s k : Nat) ∧ Below w.heap.size w wr) (fun _ i _ => us.length - (intOf i).toNat)
          case atStart => exact ⟨0, by omega, rfl, rfl, hbr⟩
          case round =>
            clear hbr
            obtain ⟨k, hk, rfl, rfl, hbr⟩ := hrel
            by_cases hku : k < us.length
            · have HB1 := Lib.hid (fun w => refBit_any s k hs (by omega) w)
              have hsc := Lib.hid (L.downTo_succ us s k)
              have q1 : L.downTo us s k < 18446744073709551616 := L.orDowns_lt us _
              have q2 := L.down_lt us k
              have HDk := Lib.hid (HD.out k wr hbr)
              obtain ⟨d1, hd1⟩ : ∃ x, L.downTo us s k = x := ⟨_, rfl⟩
              obtain ⟨d2, hd2⟩ : ∃ x, L.down us k = x := ⟨_, rfl⟩
              rw [hd1] at hsc q1 ⊢
              rw [hd2] at hsc q2 HDk
              clear hd1 hd2
              cases hb : s.testBit k with
              | false =>
                rw [hb] at HB1 hsc
                rw [if_neg (by decide)] at hsc
                clear hb
                go_wp2_with fail
                refine (HB1.out wr).mono ?_
                rintro e w' ⟨rfl, rfl⟩
                go_wp2_with fail
                go_roundw
                case rel => exact ⟨k + 1, by omega, by go_num, by rw [hsc.out], hbr⟩
                case measure => simp [intOf]; omega
              | true =>
                rw [hb] at HB1 hsc
                rw [if_pos rfl] at hsc
                have hor := u64_or_nat d1 d2 q1 q2
                clear hb
                go_wp2_with fail
                refine (HB1.out wr).mono ?_
                rintro e w' ⟨rfl, rfl⟩
                go_wp2_with fail
                refine HDk.out.mono ?_
                rintro e w' ⟨rfl, rfl⟩
                go_wp2_with fail
                go_roundw
                case rel => exact ⟨k + 1, by omega, by go_num, by rw [hsc.out], hbr⟩
                case measure => simp [intOf]; omega
            · obtain rfl : k = us.length := by omega
              rw [HDn.out]
              have e1 : ((N0 : Int) == (N0 : Int)) = true := by simp
              have e2 : ((S : Int) == (S : Int)) = true := by simp
              have o1 : bits BinOp.or IntKind.u64 (S : Int) (N0 : Int) = (S : Int) := by rw [u64_or_nat S N0 hS64 hN64, Nat.or_comm, HN0.out]
              have o2 : bits BinOp.or IntKind.u64 (S : Int) (S : Int) = (S : Int) := by rw [u64_or_nat S S hS64 hS64, HT2.out]
              have st := Lib.hid (HS.out _ _ S wr hS64 hbr HG.out hll)
              rw [HAg.out] at st
              clear HDn HN0 HT2 HAg
              go_wp2_with fail
              refine st.out.mono ?_
              rintro e w6 ⟨rfl, hx⟩
              have hfin := Lib.hid (below_next hbr hx)
              clear hx st hbr
              go_wp2_with fail
              go_ret
              exact ⟨rfl, hfin.out⟩
end Go.Proofs.YtnfhhhcbgipmcaaDoor
