/- What grants.Sources returns, over a lattice. -/
import Derived.Test.YtnfhhhcbgipmcaaDoorSrc3
namespace Go.Proofs.YtnfhhhcbgipmcaaDoor
open Go Go.RowKit

theorem bb_iff {x t : Nat} : ((x : Int) / 2 ^ t % 2 == 1) = x.testBit t := bit_eq x t

set_option maxRecDepth 4000 in
set_option maxHeartbeats 2000000 in
theorem sources_any (v : Value) (us : List Nat) (vl : Value) (l : List Gr) (s : Nat) (w : World) (hv : Us w v us) (hu : U64s us) (hl : Gs w vl l) (hll : l.length ≤ 100000) (hs : s < 18446744073709551616) (hlat : L.Lat us) (ht : DTab w) :
    Calls Tryd.prog 42 #[v, vl, .int .u64 s] w fun e w' => e = .returned (.int .u64 (L.srcs us l s : Nat)) ∧ Below w.heap.size w w' := by
  obtain ⟨ao, cap, rfl, -⟩ := hv.shape
  have HLat := Lib.hid hlat
  have hb1 : Below w.heap.size w (w.alloc (.cells #[.slice ao us.length cap] 22)) := (Below.refl _ _).alloc (Nat.le_refl _) _
  have HBX : Hid ((w.alloc (.cells #[.slice ao us.length cap] 22)).heap[w.heap.size]? = some (.cells #[.slice ao us.length cap] 22 (0, 0))) := heap_alloc_new _ _
  have HV1 := Lib.hid (hv.below hb1)
  have HL1 := Lib.hid (Three.Ss.below hl hb1)
  have HT1 := Lib.hid (ht.below hb1)
  have hsz : (w.alloc (.cells #[.slice ao us.length cap] 22)).heap.size = w.heap.size + 1 := by simp
  have HB1 := Lib.hid hb1
  have h64 := hlat.few
  clear hv hl ht hb1 hlat
  go_enter Tryd.func42, Tryd.ntmps42
  go_wp2_with fail
  generalize w.alloc (.cells #[.slice ao us.length cap] 22) = w1 at *
  obtain ⟨B, hB⟩ : ∃ B, w.heap.size = B := ⟨_, rfl⟩
  rw [hB] at HBX hsz ⊢
  clear hB
  have HCell := Lib.hid (fun (W : World) (hW : Below w1.heap.size w1 W) => cell_of_row W B 0 _ _ (0, 0) ((hW.block B (by omega)).trans HBX.out))
  refine (gclone_any vl l w1 HL1.out hll).mono ?_
  rintro e w2 ⟨v2, rfl, hown, hb2⟩
  have HT2 : Hid (Tests w2 w1.heap.size B fun g => !L.fits us g) := fun W hW g =>
    unfit_any B _ us g W (((hb2.trans hW).block B (by omega)).trans HBX.out) (HV1.out.below (hb2.trans hW)) hu
  have HDel := Lib.hid (gdelete_any v2 l B w1.heap.size (fun g => !L.fits us g) w2 hll hown hb2.size HT2.out)
  replace hb2 := Lib.hid hb2
  clear hown HT2
  go_wp2_with fail
  refine HDel.out.mono ?_
  rintro e w3 ⟨v3, rfl, hg3, hb⟩
  have hb3 := Lib.hid (hb2.out.trans hb)
  have hfil : (l.filter fun g => !(!L.fits us g)) = l.filter (L.fits us) := by congr 1; funext g; simp
  rw [hfil] at hg3
  have HG3 := Lib.hid hg3
  obtain ⟨ao3, cap3, rfl, -⟩ := hg3.shape
  have hlen3 := hg3.len
  have HFits : Hid (∀ g ∈ l.filter (L.fits us), L.fits us g = true) := fun g hg => (List.mem_filter.1 hg).2
  have HStep : Hid (∀ x, L.stepB us l x = L.belowB us (L.mores x (l.filter (L.fits us)))) := fun _ => rfl
  clear hb hb2 HDel hg3 hfil HL1
  obtain ⟨fs, hfs⟩ : ∃ fs, l.filter (L.fits us) = fs := ⟨_, rfl⟩
  rw [hfs] at HG3 HFits HStep hlen3 ⊢
  clear hfs
  obtain ⟨K, hK⟩ : ∃ K, fs.length = K := ⟨_, rfl⟩
  have HK := Lib.hid hK
  rw [hK] at HG3 hlen3 ⊢
  clear hK
  have c0 := HCell.out w3 hb3.out
  have HBel := Lib.hid (fun (x : Nat) (hx : x < 18446744073709551616) (W : World) (hW : Below w1.heap.size w1 W) => below_any _ us x hx W (HV1.out.below hW) hu (HT1.out.below hW))
  have HBs := Lib.hid (HBel.out s hs w3 hb3.out)
  go_wp2_with fail
  refine HBs.out.mono ?_
  rintro e w4 ⟨rfl, hb⟩
  have hb4 := Lib.hid (hb3.out.trans (hb.mono hb3.out.size))
  have hb34 := Lib.hid hb
  have HI0 := Lib.hid (L.inv_start HLat.out l (s := s) hs)
  clear hb HBs c0 hb3
  go_wp2_with fail
  go_loopw [8] (fun xv wr => ∃ x : Nat, xv = .int .u64 x ∧ Hid (L.SrcInv us l s x) ∧ Hid (Below w1.heap.size w1 wr) ∧ Hid (Below w3.heap.size w3 wr)) (fun xv _ => 2 ^ us.length - (intOf xv).toNat)
  case atStart => exact ⟨_, rfl, HI0, hb4, hb34⟩
  case round =>
    clear hb4 hb34 HI0
    obtain ⟨x, rfl, HI, hbr, hb3r⟩ := hrel
    have hx64 : x < 18446744073709551616 := L.p64 h64 HI.out.lt
    have HM0 : Hid (L.mores x (fs.take 0) = x) := rfl
    go_wp2_with fail
    go_loopw [9, 22] (fun mv i wr => ∃ k : Nat, k ≤ K ∧ i = .int .i64 k ∧ mv = .int .u64 (L.mores x (fs.take k) : Nat) ∧ Hid (Below w1.heap.size w1 wr) ∧ Hid (Below w3.heap.size w3 wr)) (fun _ i _ => K - (intOf i).toNat)
    case atStart => exact ⟨0, by omega, rfl, by rw [HM0.out], hbr, hb3r⟩
    case round =>
      clear hbr hb3r HM0
      obtain ⟨k, hk, rfl, rfl, hbr, hb3r⟩ := hrel
      by_cases hkK : k < K
      · have hkl : k < fs.length := by have := HK.out; omega
        obtain ⟨b, off, rfl, hc⟩ := Gs.at3 (Three.Ss.below HG3.out hb3r.out) hkl
        obtain ⟨p0, p1, p2⟩ := hc k hkl
        have hfk := HFits.out fs[k] (List.getElem_mem hkl)
        have hm64 : L.mores x (fs.take k) < 18446744073709551616 := L.p64 h64 (L.mores_lt HI.out.lt fun g hg => HFits.out g (List.mem_of_mem_take hg))
        have hs1 : Hid (L.mores x (fs.take (k + 1)) = L.more1 x (L.mores x (fs.take k)) fs[k]) := by unfold Hid; rw [List.take_succ_eq_append_getElem hkl, L.mores_snoc]
        obtain ⟨y, hy⟩ : ∃ y, fs[k] = y := ⟨_, rfl⟩
        rw [hy] at p0 p1 p2 hfk hs1
        clear hy hc
        obtain ⟨m, hm⟩ : ∃ m, L.mores x (fs.take k) = m := ⟨_, rfl⟩
        rw [hm] at hm64 hs1 ⊢
        clear hm
        obtain ⟨a, f, t, rfl, -, ha, hf, htt⟩ := L.fits_nat hfk
        simp only [] at p0 p1 p2
        have ha64 : a < 64 := by omega
        have hf64 : f < 64 := by omega
        have ht64 : (t : Int) < 64 := by omega
        have ha64' : (a : Int) < 64 := by omega
        have hf64' : (f : Int) < 64 := by omega
        have e1 := bit_and x t hx64
        have e2 := bit_eq x t
        have hb2 := Lib.hid (hbr.out.alloc hbr.out.size (.cells #[.int .i64 (a : Int), .int .i64 (f : Int), .int .i64 (t : Int)] 47))
        have hb3n := Lib.hid (hb3r.out.alloc hb3r.out.size (.cells #[.int .i64 (a : Int), .int .i64 (f : Int), .int .i64 (t : Int)] 47))
        unfold L.more1 at hs1
        simp only [Int.toNat_natCast] at hs1
        clear hfk ha hf htt hkl
        cases hbit : x.testBit t with
        | false =>
          rw [hbit] at e2 hs1
          rw [if_neg (by decide)] at hs1
          clear hbit
          go_wp2_with fail
          go_roundw
          case rel => exact ⟨k + 1, by omega, by go_num, by rw [hs1.out], hb2, hb3n⟩
          case measure => simp [intOf]; omega
        | true =>
          rw [hbit] at e2 hs1
          rw [if_pos rfl] at hs1
          have hor1 := u64_or_nat (2 ^ a) (2 ^ f) (Nat.pow_lt_pow_right (show 1 < 2 by decide) ha64) (Nat.pow_lt_pow_right (show 1 < 2 by decide) hf64)
          have hor2 := u64_or_nat m (2 ^ a ||| 2 ^ f) hm64 (Nat.or_lt_two_pow (n := 64) (Nat.pow_lt_pow_right (show 1 < 2 by decide) ha64) (Nat.pow_lt_pow_right (show 1 < 2 by decide) hf64))
          have HOR : Hid (bits BinOp.or IntKind.u64 (m : Int) (bits BinOp.or IntKind.u64 (IntKind.u64.wrap (2 ^ a)) (IntKind.u64.wrap (2 ^ f))) = ((m ||| (2 ^ a ||| 2 ^ f) : Nat) : Int)) := by
            unfold Hid
            rw [wrap_pow a ha64, wrap_pow f hf64, hor1, hor2]
          clear hor1 hor2 hbit
          have hX : Bx (wr.alloc (.cells #[.int .i64 (a : Int), .int .i64 (f : Int), .int .i64 (t : Int)] 47)) wr.heap.size 47 (.int .i64 (a : Int)) (.int .i64 (f : Int)) (.int .i64 (t : Int)) := heap_alloc_new _ _
          go_wp2_with fail
          generalize wr.alloc (.cells #[.int .i64 (a : Int), .int .i64 (f : Int), .int .i64 (t : Int)] 47) = wA at *
          generalize wr.heap.size = B2 at *
          obtain ⟨c0, c1, c2⟩ := hX.cells
          clear p0 p1 p2 e1 e2 hX
          go_quiet (fail)
          clear c0 c1 c2
          go_wp2_with fail
          go_roundw
          case rel => exact ⟨k + 1, by omega, by go_num, by rw [hs1.out, ← HOR.out], below_next hb2.out (below_drewN _ _), below_next hb3n.out (below_drewN _ _)⟩
          case measure => simp [intOf]; omega
      · obtain rfl : k = K := by omega
        have hall : Hid (L.mores x (fs.take k) = L.mores x fs) := by unfold Hid; rw [List.take_of_length_le (by have := HK.out; omega)]
        have hm64 : L.mores x fs < 18446744073709551616 := L.p64 h64 (L.mores_lt HI.out.lt fun g hg => HFits.out g hg)
        have hst := Lib.hid (HStep.out x)
        rw [hall.out]
        obtain ⟨m, hm⟩ : ∃ m, L.mores x fs = m := ⟨_, rfl⟩
        rw [hm] at hm64 hst ⊢
        clear hm hall
        have c0 := HCell.out wr hbr.out
        have HBm := Lib.hid (HBel.out m hm64 wr hbr.out)
        rw [← hst.out] at HBm
        have hnext := Lib.hid (L.inv_step HLat.out HI.out).1
        clear hst
        by_cases heq : L.stepB us l x = x
        · have hfin : Hid (L.srcs us l s = x) := (L.inv_done HLat.out HI.out heq).symm
          rw [heq] at HBm
          have dxx : ((x : Int) == (x : Int)) = true := by simp
          clear hnext heq
          go_wp2_with fail
          refine HBm.out.mono ?_
          rintro e w5 ⟨rfl, hb⟩
          have hbz := Lib.hid (below_next HB1.out (hbr.out.trans (hb.mono hbr.out.size)))
          clear hb HBm c0
          go_wp2_with fail
          go_ret
          exact ⟨by rw [hfin.out]; rfl, hbz.out⟩
        · have hlt := L.inv_lt HLat.out HI.out heq
          have hlt2 := hnext.out.lt
          obtain ⟨z, hz⟩ : ∃ z, L.stepB us l x = z := ⟨_, rfl⟩
          rw [hz] at HBm hnext hlt hlt2 heq
          have dxx : ((z : Int) == (x : Int)) = false := by rw [beq_eq_false_iff_ne]; omega
          clear hz heq
          go_wp2_with fail
          refine HBm.out.mono ?_
          rintro e w5 ⟨rfl, hb⟩
          have hbz := Lib.hid (hbr.out.trans (hb.mono hbr.out.size))
          have hbz3 := Lib.hid (hb3r.out.trans (hb.mono hb3r.out.size))
          clear hb HBm c0 dxx
          go_wp2_with fail
          go_roundw
          case rel => exact ⟨z, rfl, hnext, hbz, hbz3⟩
          case measure => simp [intOf]; omega
end Go.Proofs.YtnfhhhcbgipmcaaDoor
