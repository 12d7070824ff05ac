/- PurgeChains returns true. -/
import Derived.Test.YtljpfocmnppjgaaDoorOp16
import Derived.Test.YtljpfocmnppjgaaDoorPuPlain
namespace Go.Proofs.YtljpfocmnppjgaaDoor
open Go Go.RowKit

theorem infoGr : (Tryd.prog.info? 50).map (fun i => (i.zero, i.size, i.bytes)) = some (some (.agg #[.int .i64 0, .int .i64 0, .int .i64 0]), 3, 24) := by kernel_rfl
set_option maxRecDepth 4000 in
set_option maxHeartbeats 16000000 in
theorem puchains_any (vn vu vq vg vl : Value) (ns : List (List UInt8)) (us : List Nat) (qs : List Int) (gs : List Gr) (l : List Opr) (lv : Nat) (w : World) (h : Cf w vn vu vq vg ns us qs gs) (hl : Os w vl l) (hlv : lv < 256) (ht : DTab w) :
    Calls Tryd.prog 5 #[cfv vn vu vq vg, vl, .int .u8 lv] w fun e w' => e = .returned (.bool true) ∧ Below w.heap.size w w' := by
  obtain ⟨ao, cap, rfl, -⟩ := hl.shape
  obtain ⟨vua, vuc, rfl, -⟩ := h.u.shape
  obtain ⟨ga, gc, rfl, -⟩ := h.g.shape
  obtain ⟨na, nc, rfl, -⟩ := h.n.shape
  obtain ⟨qa, qc, rfl, -⟩ := h.q.shape
  have hbig := hl.len
  have HCf := Lib.hid h
  have HL := Lib.hid hl
  have HT := Lib.hid ht
  have HA := Lib.hid (fun W (hW : Below w.heap.size w W) => awake_any W (ht.below hW))
  have HS := Lib.hid (fun W (hW : Below w.heap.size w W) => small_any (.slice na ns.length nc) (.slice vua us.length vuc) (.slice qa qs.length qc) (.slice ga gs.length gc) (.slice ao l.length cap) ns us qs gs l W (h.below hW) (hl.below hW))
  have HCB := Lib.hid (Cb.new w (.slice na ns.length nc) (.slice vua us.length vuc) (.slice qa qs.length qc) (.slice ga gs.length gc))
  have hb0 : Hid (Below w.heap.size w (w.alloc (.cells #[(.slice na ns.length nc), .slice vua us.length vuc, (.slice qa qs.length qc), (.slice ga gs.length gc)] 27))) := (Below.refl _ _).alloc (Nat.le_refl _) _
  clear h hl ht
  obtain ⟨n, hn⟩ : ∃ n, l.length = n := ⟨_, rfl⟩
  obtain ⟨m, hm⟩ : ∃ m, us.length = m := ⟨_, rfl⟩
  obtain ⟨g, hg⟩ : ∃ g, gs.length = g := ⟨_, rfl⟩
  obtain ⟨nl, hnl⟩ : ∃ g, ns.length = g := ⟨_, rfl⟩
  obtain ⟨ql, hql⟩ : ∃ g, qs.length = g := ⟨_, rfl⟩
  have HGn := Lib.hid hg
  have HN := Lib.hid hn
  have HM := Lib.hid hm
  rw [hn] at HL hbig HS
  rw [hm, hg, hnl, hql] at HCf HS HCB hb0
  rw [hn, hm, hg, hnl, hql]
  clear hn hm hg hnl hql
  go_enter Tryd.func5, Tryd.ntmps5
  go_wp2_with fail
  refine (HA.out _ hb0.out).mono ?_
  rintro e w1 ⟨rfl, hx⟩
  have HC1 := Lib.hid (HCB.out.later hx)
  have hb1 := Lib.hid (below_next hb0.out hx)
  have st := Lib.hid (HS.out w1 hb1.out)
  have q0 := HC1.out.cell.1
  have q1 := HC1.out.cell.2.1
  have q2 := HC1.out.cell.2.2.1
  have q3 := HC1.out.cell.2.2.2
  clear hx HA HS HCB hb0
  go_wp2_with fail
  refine st.out.mono ?_
  rintro e w2 ⟨bb, rfl, hsm, hx⟩
  have HC2 := Lib.hid (HC1.out.later hx)
  have hb2 := Lib.hid (below_next hb1.out hx)
  clear hx st q0 q1 q2 q3 HC1 hb1
  cases bb with
  | false =>
    clear hsm
    go_wp2_with fail
    go_ret
    exact ⟨rfl, hb2.out⟩
  | true =>
    have HSm := Lib.hid (hsm rfl)
    have HLat := Lib.hid (L.check_iff.1 HSm.out.lat)
    have h120 : n ≤ 120 := by rw [← HN.out]; exact HSm.out.few
    have HFew : Hid (Few l) := fun o ho => Nat.le_trans (HSm.out.keep o ho) (by decide)
    clear hsm
    have hm1 : 1 ≤ m := by rw [← HM.out]; exact HLat.out.some
    have hm12 : m ≤ 12 := by rw [← HM.out]; exact HSm.out.labels
    have hxx : (lv : Int) % (m : Int) = ((lv % m : Nat) : Int) := (Int.natCast_emod lv m).symm
    have hxm : lv % m < m := Nat.mod_lt _ (by omega)
    have hlv0 : (0 : Int) ≤ (lv : Int) := by omega
    have hlv1 : (lv : Int) < 256 := by omega
    have hm0 : (m : Int) ≠ 0 := by omega
    obtain ⟨x, hxd⟩ : ∃ x, lv % m = x := ⟨_, rfl⟩
    rw [hxd] at hxx hxm
    clear hxd
    have st := Lib.hid (sets_any (.slice na nl nc) (.slice vua m vuc) (.slice qa ql qc) (.slice ga g gc) (.slice ao n cap) us gs l (x : Int) w2 (HCf.out.below hb2.out).u HCf.out.u64 (HCf.out.below hb2.out).g (HL.out.below hb2.out) (by rw [HN.out]; omega))
    have hdl := L.down_lt us (x : Int)
    obtain ⟨d, hd⟩ : ∃ d, L.down us (x : Int) = d := ⟨_, rfl⟩
    rw [hd] at st hdl
    have HD := Lib.hid hd
    clear hd
    have q0 := HC2.out.cell.1
    have q1 := HC2.out.cell.2.1
    have q2 := HC2.out.cell.2.2.1
    have q3 := HC2.out.cell.2.2.2
    go_wp2_with fail
    refine st.out.mono ?_
    rintro e w3 ⟨vs, rfl, hos, hx⟩
    have HSL : Hid ((L.sets us gs d l).length = n) := by rw [← HN.out]; exact L.sets_length _ _ _ _
    have HV : Hid (Us w3 vs (L.sets us gs d l)) := by
      unfold Hid Us
      rw [HSL.out, ← HN.out]
      exact Sl.of_owns hos
    have HC3 := Lib.hid (HC2.out.later hx)
    have hb3 := Lib.hid (below_next hb2.out hx)
    have HSlt : Hid (∀ j, L.cur us gs d (l.drop j) < 18446744073709551616) := fun j => L.cur_lt hdl _
    have HSA : Hid (∀ i (_ : i < n), (L.sets us gs d l).getD i 0 = L.cur us gs d (l.drop i)) := fun i h => by
      rw [List.getD_eq_getElem?_getD, List.getElem?_eq_getElem (by rw [HSL.out]; exact h), Option.getD_some, L.sets_at]
    obtain ⟨sa, sc, rfl, -⟩ := HV.out.shape
    rw [HSL.out] at HV
    rw [HSL.out]
    clear hos hx st q0 q1 q2 q3 HC2 hb2
    by_cases hg0 : 0 < g
    · have hgI : (0 : Int) < (g : Int) := by omega
      have hG3 : Sl w 3 g (.slice ga g gc) (GR.cells gs) := by
        have := HCf.out.g
        unfold Gs Three.Ss at this
        rw [HGn.out] at this
        exact this
      obtain ⟨vd, hvd, hrun⟩ := run_drop (P := Tryd.prog) (t := 25) Tryd.underlying25 infoGr hG3 .i64 1 (by omega)
      rw [GR.cells_drop] at hvd
      rw [show ((1 : Nat) : Int) = 1 from rfl] at hrun
      obtain ⟨gs', hgs'⟩ : ∃ l', gs.drop 1 = l' := ⟨_, rfl⟩
      have HG2 : Hid (Gs w vd gs') := by unfold Hid Gs Three.Ss; rw [← hgs', List.length_drop, HGn.out]; exact hvd
      have HSub : Hid (∀ y ∈ gs', y ∈ gs) := by rw [← hgs']; exact fun y hy => List.mem_of_mem_drop hy
      clear hgs' hvd hG3
      obtain ⟨da, dc, rfl, -⟩ := HG2.out.shape
      obtain ⟨g2, hg2⟩ : ∃ g2, gs'.length = g2 := ⟨_, rfl⟩
      rw [hg2] at HG2 hrun
      clear hg2
      have hb4 : Hid (Below w.heap.size w ((w3.alloc (.cells #[(.slice na nl nc), (.slice vua m vuc), (.slice qa ql qc), (.slice da g2 dc)] 27)).alloc (.cells #[(.slice na nl nc), (.slice vua m vuc), (.slice qa ql qc), (.slice none 0 0)] 27))) := (hb3.out.alloc hb3.out.size _).alloc (by have := hb3.out.size; simp; omega) _
      have hx4 : Below w3.heap.size w3 ((w3.alloc (.cells #[(.slice na nl nc), (.slice vua m vuc), (.slice qa ql qc), (.slice da g2 dc)] 27)).alloc (.cells #[(.slice na nl nc), (.slice vua m vuc), (.slice qa ql qc), (.slice none 0 0)] 27)) := ((Below.refl _ _).alloc (Nat.le_refl _) _).alloc (by simp) _
      have HC4 := Lib.hid (HC3.out.later hx4)
      have HV4 := Lib.hid (HV.out.below hx4)
      have HN4 : Hid (Cb ((w3.alloc (.cells #[(.slice na nl nc), (.slice vua m vuc), (.slice qa ql qc), (.slice da g2 dc)] 27)).alloc (.cells #[(.slice na nl nc), (.slice vua m vuc), (.slice qa ql qc), (.slice none 0 0)] 27)) (w3.heap.size + 1) (.slice na nl nc) (.slice vua m vuc) (.slice qa ql qc) (.slice none 0 0)) := by
        have := Cb.new (w3.alloc (.cells #[(.slice na nl nc), (.slice vua m vuc), (.slice qa ql qc), (.slice da g2 dc)] 27)) (.slice na nl nc) (.slice vua m vuc) (.slice qa ql qc) (.slice none 0 0)
        rw [show (w3.alloc (.cells #[(.slice na nl nc), (.slice vua m vuc), (.slice qa ql qc), (.slice da g2 dc)] 27)).heap.size = w3.heap.size + 1 by simp] at this
        exact this
      clear HV hx4
      have st := Lib.hid (sets_any (.slice na nl nc) (.slice vua m vuc) (.slice qa ql qc) (.slice da g2 dc) (.slice ao n cap) us gs' l (x : Int) ((w3.alloc (.cells #[(.slice na nl nc), (.slice vua m vuc), (.slice qa ql qc), (.slice da g2 dc)] 27)).alloc (.cells #[(.slice na nl nc), (.slice vua m vuc), (.slice qa ql qc), (.slice none 0 0)] 27)) (HCf.out.below hb4.out).u HCf.out.u64 (Three.Ss.below HG2.out hb4.out) (HL.out.below hb4.out) (by rw [HN.out]; omega))
      rw [HD.out] at st
      have q0 := HC3.out.cell.1
      have q1 := HC3.out.cell.2.1
      have q2 := HC3.out.cell.2.2.1
      have q3 := HC3.out.cell.2.2.2
      have hcs : ∀ (cs : Array Value) (i : Nat), (w3.alloc (.cells cs 27)).cell? ⟨w.heap.size, i, none⟩ = w3.cell? ⟨w.heap.size, i, none⟩ := fun cs i => World.cell?_alloc_lt w3 _ _ HC3.out.lt
      go_wp2_with fail
      refine st.out.mono ?_
      rintro e w5 ⟨vs5, rfl, hos, hx⟩
      have hb5 := Lib.hid (below_next hb4.out hx)
      have HC5 := Lib.hid (HC4.out.later hx)
      have HN5 := Lib.hid (HN4.out.later hx)
      have HV5 := Lib.hid (HV4.out.below hx)
      have HSL5 : Hid ((L.sets us gs' d l).length = n) := by rw [← HN.out]; exact L.sets_length _ _ _ _
      have HP5 : Hid (Us w5 vs5 (L.sets us gs' d l)) := by unfold Hid Us; rw [HSL5.out, ← HN.out]; exact Sl.of_owns hos
      obtain ⟨pa, pc, rfl, -⟩ := HP5.out.shape
      rw [HSL5.out] at HP5
      rw [HSL5.out]
      clear hos hx st hb4 HC4 HN4 HV4 q0 q1 q2 q3 hcs hb3 HC3
      have st := Lib.hid (sets_any (.slice na nl nc) (.slice vua m vuc) (.slice qa ql qc) (.slice none 0 0) (.slice ao n cap) us [] l (x : Int) w5 (HCf.out.below hb5.out).u HCf.out.u64 (Three.Ss.nil w5) (HL.out.below hb5.out) (by rw [HN.out]; omega))
      rw [HD.out] at st
      have q0 := HN5.out.cell.1
      have q1 := HN5.out.cell.2.1
      have q2 := HN5.out.cell.2.2.1
      have q3 := HN5.out.cell.2.2.2
      go_wp2_with fail
      refine st.out.mono ?_
      rintro e w6 ⟨vs6, rfl, hos, hx⟩
      have hb6 := Lib.hid (below_next hb5.out hx)
      have HC6 := Lib.hid (HC5.out.later hx)
      have HV6 := Lib.hid (HV5.out.below hx)
      have HP6 := Lib.hid (HP5.out.below hx)
      have HSL6 : Hid ((L.sets us [] d l).length = n) := by rw [← HN.out]; exact L.sets_length _ _ _ _
      have HZ6 : Hid (Us w6 vs6 (L.sets us [] d l)) := by unfold Hid Us; rw [HSL6.out, ← HN.out]; exact Sl.of_owns hos
      obtain ⟨za, zc, rfl, -⟩ := HZ6.out.shape
      rw [HSL6.out] at HZ6
      rw [HSL6.out]
      clear hos hx st hb5 HC5 HN5 HV5 HP5 q0 q1 q2 q3
      have HSlt5 : Hid (∀ j, L.cur us gs' d (l.drop j) < 18446744073709551616) := fun j => L.cur_lt hdl _
      have HSA5 : Hid (∀ i (_ : i < n), (L.sets us gs' d l).getD i 0 = L.cur us gs' d (l.drop i)) := fun i h => by
        rw [List.getD_eq_getElem?_getD, List.getElem?_eq_getElem (by rw [HSL5.out]; exact h), Option.getD_some, L.sets_at]
      have HSA6 : Hid (∀ i (_ : i < n), (L.sets us [] d l).getD i 0 = d) := fun i h => by
        rw [List.getD_eq_getElem?_getD, List.getElem?_eq_getElem (by rw [HSL6.out]; exact h), Option.getD_some, L.sets_at, L.cur_none]
      go_wp2_with fail
      go_loopw [15] (fun i wr => ∃ k : Nat, k ≤ n ∧ i = .int .i64 k ∧ Hid (Us wr (.slice sa n sc) (L.sets us gs d l)) ∧ Hid (Us wr (.slice pa n pc) (L.sets us gs' d l)) ∧ Hid (Us wr (.slice za n zc) (L.sets us [] d l)) ∧ Hid (Cb wr w.heap.size (.slice na nl nc) (.slice vua m vuc) (.slice qa ql qc) (.slice ga g gc)) ∧ Hid (Below w.heap.size w wr)) (fun i _ => n - (intOf i).toNat)
      case atStart => exact ⟨0, by omega, rfl, HV6, HP6, HZ6, HC6, hb6⟩
      case round =>
        clear HV6 HP6 HZ6 HC6 hb6
        obtain ⟨k, hk, rfl, HV, HP, HZ, HC, hbr⟩ := hrel
        by_cases hkn : k < n
        · have hkI : (k : Int) < (n : Int) := by omega
          have hk0 : (0 : Int) ≤ (k : Int) := by omega
          obtain ⟨b9, o9, rfl, -⟩ := HV.out.at (j := k) (by rw [HSL.out]; exact hkn)
          obtain ⟨b8, o8, rfl, -⟩ := HP.out.at (j := k) (by rw [HSL5.out]; exact hkn)
          obtain ⟨b7, o7, rfl, -⟩ := HZ.out.at (j := k) (by rw [HSL6.out]; exact hkn)
          have hslt := HSlt.out k
          have hslt5 := HSlt5.out k
          have hsa := HSA.out k hkn
          have hsa5 := HSA5.out k hkn
          have hsa6 := HSA6.out k hkn
          have hsub := (L.cur_mono (us := us) HSub.out (L.Sub.refl d) (l.drop k)).or
          obtain ⟨s, hs⟩ : ∃ s, L.cur us gs d (l.drop k) = s := ⟨_, rfl⟩
          rw [hs] at hslt hsa hsub
          obtain ⟨t, ht⟩ : ∃ s, L.cur us gs' d (l.drop k) = s := ⟨_, rfl⟩
          rw [ht] at hslt5 hsa5 hsub
          have HSAk := Lib.hid hsa
          have HSAk5 := Lib.hid hsa5
          have HSAk6 := Lib.hid hsa6
          have hor : bits BinOp.or IntKind.u64 (t : Int) (s : Int) = (s : Int) := by rw [u64_or_nat t s hslt5 hslt, hsub]
          have hne : ((s : Int) != (s : Int)) = false := by simp
          have hned : ((d : Int) != (d : Int)) = false := by simp
          clear hs ht hsa hsa5 hsa6 hsub
          go_wp2_with fail
          refine wp_region_mix ext_grow [(0, false), (1, false), (2, false), (3, false), (4, false), (5, false), (6, false), (7, false), (8, false), (9, false), (10, false), (11, false), (12, false), (13, false), (14, false), (15, false), (16, false), (17, false), (18, false), (19, false), (20, false), (21, false), (22, false), (23, false), (24, false)] (by kernel_rfl) (by kernel_rfl) ?_
          have HV1 : Hid (Us wr.drew (.slice (some ⟨b9, o9, none⟩) n sc) (L.sets us gs d l)) := HV.out
          have HP1 : Hid (Us wr.drew (.slice (some ⟨b8, o8, none⟩) n pc) (L.sets us gs' d l)) := HP.out
          have HZ1 : Hid (Us wr.drew (.slice (some ⟨b7, o7, none⟩) n zc) (L.sets us [] d l)) := HZ.out
          have HC1 : Hid (Cb wr.drew w.heap.size (.slice na nl nc) (.slice vua m vuc) (.slice qa ql qc) (.slice ga g gc)) := HC.out
          have hb1 : Hid (Below w.heap.size w wr.drew) := hbr.out.drew
          clear HV HP HZ HC hbr
          generalize wr.drew = w7 at *
          have cs : ∀ z : Later w7, z.1.cell? ⟨b9, o9 + k, none⟩ = some (.int .u64 (s : Int)) := fun z => by
            obtain ⟨b', o', e, hc⟩ := (HV1.out.below z.2).at (j := k) (by rw [HSL.out]; exact hkn)
            obtain ⟨rfl, rfl⟩ : b9 = b' ∧ o9 = o' := by simpa using e
            have := hc k (by rw [HSL.out]; exact hkn)
            rw [HSAk.out] at this
            exact this
          have ct : ∀ z : Later w7, z.1.cell? ⟨b8, o8 + k, none⟩ = some (.int .u64 (t : Int)) := fun z => by
            obtain ⟨b', o', e, hc⟩ := (HP1.out.below z.2).at (j := k) (by rw [HSL5.out]; exact hkn)
            obtain ⟨rfl, rfl⟩ : b8 = b' ∧ o8 = o' := by simpa using e
            have := hc k (by rw [HSL5.out]; exact hkn)
            rw [HSAk5.out] at this
            exact this
          have cz : ∀ z : Later w7, z.1.cell? ⟨b7, o7 + k, none⟩ = some (.int .u64 (d : Int)) := fun z => by
            obtain ⟨b', o', e, hc⟩ := (HZ1.out.below z.2).at (j := k) (by rw [HSL6.out]; exact hkn)
            obtain ⟨rfl, rfl⟩ : b7 = b' ∧ o7 = o' := by simpa using e
            have := hc k (by rw [HSL6.out]; exact hkn)
            rw [HSAk6.out] at this
            exact this
          have c1 : ∀ z : Later w7, z.1.cell? ⟨w.heap.size, 1, none⟩ = some (.slice vua m vuc) := fun z => (HC1.out.later z.2).cell.2.1
          have HFy : Hid (∀ z : Later w7, Calls Tryd.prog 16 #[(.slice vua m vuc), .int .i64 x] z.1 fun e w' => e = .returned (.int .u64 d) ∧ Ext z.1 w') := fun z => by
            have := refDown_any (.slice vua m vuc) us (x : Int) z.1 (HCf.out.below (below_next hb1.out z.2)).u HCf.out.u64
            rw [HD.out] at this
            exact this.mono fun e w' ⟨h1, h2⟩ => ⟨h1, ext_of_eq h2⟩
          repeat (refine mix_soft rfl (fun K hK => ?_); go_simp; (first | (refine hK _ ?_; clear hK K) | (apply Exists.intro; refine ⟨fun z => ?_, hK _ ?_⟩; (first | (go_at_call 16; with_reducible exact HFy.out z)); clear hK K)))
          refine mix_done fun w8 hx => ?_
          have hb8 := Lib.hid (below_next hb1.out hx)
          have HC8 := Lib.hid (HC1.out.later hx)
          have HV8 := Lib.hid (HV1.out.below hx)
          have HP8 := Lib.hid (HP1.out.below hx)
          have HZ8 := Lib.hid (HZ1.out.below hx)
          clear hx hb1 HC1 HV1 HP1 HZ1 cs ct cz c1 HFy
          go_wp2_with fail
          go_roundw
          case rel => exact ⟨k + 1, by omega, by go_num, HV8, HP8, HZ8, HC8, hb8⟩
          case measure => simp [intOf]; omega
        · have hkI : ¬ ((k : Int) < (n : Int)) := by omega
          obtain rfl : n = k := by omega
          clear HP HZ HSA5 HSA6 HSlt5 HSL5 HSL6
          go_wp2_with fail
          go_loopw [16] (fun i wr => ∃ k : Nat, k ≤ m ∧ i = .int .i64 k ∧ Hid (Us wr (.slice sa n sc) (L.sets us gs d l)) ∧ Hid (Cb wr w.heap.size (.slice na nl nc) (.slice vua m vuc) (.slice qa ql qc) (.slice ga g gc)) ∧ Hid (Below w.heap.size w wr)) (fun i _ => m - (intOf i).toNat)
          case atStart => exact ⟨0, by omega, rfl, HV, HC, hbr⟩
          case round =>
            clear HV HC hbr
            obtain ⟨y, hy, rfl, HV, HC, hbr⟩ := hrel
            have q0 := HC.out.cell.1
            have q1 := HC.out.cell.2.1
            have q2 := HC.out.cell.2.2.1
            have q3 := HC.out.cell.2.2.2
            by_cases hym : y < m
            · have hyI : (y : Int) < (m : Int) := by omega
              have hy0 : (0 : Int) ≤ (y : Int) := by omega
              have st := Lib.hid (refLeq_any (.slice vua m vuc) us (x : Int) (y : Int) _ (HCf.out.below hbr.out).u HCf.out.u64)
              have HDS : Hid (L.leq us (x : Int) (y : Int) = true → L.Sub d (L.down us (y : Int))) := fun h => by rw [← HD.out]; exact L.down_sub HLat.out (by rw [HM.out]; exact hxm) (by rw [HM.out]; exact hym) h
              obtain ⟨lq, hlq⟩ : ∃ b, L.leq us (x : Int) (y : Int) = b := ⟨_, rfl⟩
              rw [hlq] at st HDS
              clear hlq
              go_wp2_with fail
              refine st.out.mono ?_
              rintro e w' ⟨rfl, rfl⟩
              clear st
              cases lq with
              | false =>
                clear HDS
                go_wp2_with fail
                go_roundw
                case rel => exact ⟨y + 1, by omega, by go_num, HV, HC, hbr⟩
                case measure => simp [intOf]; omega
              | true =>
                have hds := HDS.out rfl
                have hdyl := L.down_lt us (y : Int)
                have st := Lib.hid (sets_any (.slice na nl nc) (.slice vua m vuc) (.slice qa ql qc) (.slice ga g gc) (.slice ao n cap) us gs l (y : Int) _ (HCf.out.below hbr.out).u HCf.out.u64 (HCf.out.below hbr.out).g (HL.out.below hbr.out) (by rw [HN.out]; omega))
                obtain ⟨dy, hdy⟩ : ∃ b, L.down us (y : Int) = b := ⟨_, rfl⟩
                rw [hdy] at st hds hdyl
                have HDS2 := Lib.hid hds
                clear hdy hds HDS
                go_wp2_with fail
                refine st.out.mono ?_
                rintro e w5 ⟨vs5, rfl, hos, hx⟩
                have hb5 := Lib.hid (below_next hbr.out hx)
                have HC5 := Lib.hid (HC.out.later hx)
                have HV5 := Lib.hid (HV.out.below hx)
                have HSL5 : Hid ((L.sets us gs dy l).length = n) := by rw [← HN.out]; exact L.sets_length _ _ _ _
                have HP5 : Hid (Us w5 vs5 (L.sets us gs dy l)) := by unfold Hid Us; rw [HSL5.out, ← HN.out]; exact Sl.of_owns hos
                obtain ⟨ha, hc, rfl, -⟩ := HP5.out.shape
                rw [HSL5.out] at HP5
                rw [HSL5.out]
                have HSlt5 : Hid (∀ j, L.cur us gs dy (l.drop j) < 18446744073709551616) := fun j => L.cur_lt hdyl _
                have HSA5 : Hid (∀ i (_ : i < n), (L.sets us gs dy l).getD i 0 = L.cur us gs dy (l.drop i)) := fun i h => by
                  rw [List.getD_eq_getElem?_getD, List.getElem?_eq_getElem (by rw [HSL5.out]; exact h), Option.getD_some, L.sets_at]
                clear hos hx st hbr HC HV q0 q1 q2 q3
                go_wp2_with fail
                go_loopw [18] (fun i wr => ∃ k : Nat, k ≤ n ∧ i = .int .i64 k ∧ Hid (Us wr (.slice sa n sc) (L.sets us gs d l)) ∧ Hid (Us wr (.slice ha n hc) (L.sets us gs dy l)) ∧ Hid (Cb wr w.heap.size (.slice na nl nc) (.slice vua m vuc) (.slice qa ql qc) (.slice ga g gc)) ∧ Hid (Below w.heap.size w wr)) (fun i _ => n - (intOf i).toNat)
                case atStart => exact ⟨0, by omega, rfl, HV5, HP5, HC5, hb5⟩
                case round =>
                  clear HV5 HP5 HC5 hb5
                  obtain ⟨k, hk, rfl, HV, HP, HC, hbr⟩ := hrel
                  by_cases hkn : k < n
                  · have hkI : (k : Int) < (n : Int) := by omega
                    have hk0 : (0 : Int) ≤ (k : Int) := by omega
                    obtain ⟨b9, o9, rfl, -⟩ := HV.out.at (j := k) (by rw [HSL.out]; exact hkn)
                    obtain ⟨b8, o8, rfl, -⟩ := HP.out.at (j := k) (by rw [HSL5.out]; exact hkn)
                    have hslt := HSlt.out k
                    have hslt5 := HSlt5.out k
                    have hsa := HSA.out k hkn
                    have hsa5 := HSA5.out k hkn
                    have hsub := (L.cur_mono (us := us) (gs := gs) (fun g h => h) HDS2.out (l.drop k)).ro
                    obtain ⟨s, hs⟩ : ∃ s, L.cur us gs d (l.drop k) = s := ⟨_, rfl⟩
                    rw [hs] at hslt hsa hsub
                    obtain ⟨t, ht⟩ : ∃ s, L.cur us gs dy (l.drop k) = s := ⟨_, rfl⟩
                    rw [ht] at hslt5 hsa5 hsub
                    have HSAk := Lib.hid hsa
                    have HSAk5 := Lib.hid hsa5
                    have hor : bits BinOp.or IntKind.u64 (t : Int) (s : Int) = (t : Int) := by rw [u64_or_nat t s hslt5 hslt, hsub]
                    have hne : ((t : Int) != (t : Int)) = false := by simp
                    clear hs ht hsa hsa5 hsub
                    go_wp2_with fail
                    refine wp_region_mix ext_grow [(0, false), (1, false), (2, false), (3, false), (4, false), (5, false), (6, false), (7, false), (8, false), (9, false), (10, false), (11, false), (12, false), (13, false)] (by kernel_rfl) (by kernel_rfl) ?_
                    have HV1 : Hid (Us wr.drew (.slice (some ⟨b9, o9, none⟩) n sc) (L.sets us gs d l)) := HV.out
                    have HP1 : Hid (Us wr.drew (.slice (some ⟨b8, o8, none⟩) n hc) (L.sets us gs dy l)) := HP.out
                    have HC1 : Hid (Cb wr.drew w.heap.size (.slice na nl nc) (.slice vua m vuc) (.slice qa ql qc) (.slice ga g gc)) := HC.out
                    have hb1 : Hid (Below w.heap.size w wr.drew) := hbr.out.drew
                    clear HV HP HC hbr
                    generalize wr.drew = w7 at *
                    have cs : ∀ z : Later w7, z.1.cell? ⟨b9, o9 + k, none⟩ = some (.int .u64 (s : Int)) := fun z => by
                      obtain ⟨b', o', e, hc⟩ := (HV1.out.below z.2).at (j := k) (by rw [HSL.out]; exact hkn)
                      obtain ⟨rfl, rfl⟩ : b9 = b' ∧ o9 = o' := by simpa using e
                      have := hc k (by rw [HSL.out]; exact hkn)
                      rw [HSAk.out] at this
                      exact this
                    have ct : ∀ z : Later w7, z.1.cell? ⟨b8, o8 + k, none⟩ = some (.int .u64 (t : Int)) := fun z => by
                      obtain ⟨b', o', e, hc⟩ := (HP1.out.below z.2).at (j := k) (by rw [HSL5.out]; exact hkn)
                      obtain ⟨rfl, rfl⟩ : b8 = b' ∧ o8 = o' := by simpa using e
                      have := hc k (by rw [HSL5.out]; exact hkn)
                      rw [HSAk5.out] at this
                      exact this
                    repeat (refine mix_soft rfl (fun K hK => ?_); go_simp; (first | (refine hK _ ?_; clear hK K) | (apply Exists.intro; refine ⟨fun z => ?_, hK _ ?_⟩; (first | done); clear hK K)))
                    refine mix_done fun w8 hx => ?_
                    have hb8 := Lib.hid (below_next hb1.out hx)
                    have HC8 := Lib.hid (HC1.out.later hx)
                    have HV8 := Lib.hid (HV1.out.below hx)
                    have HP8 := Lib.hid (HP1.out.below hx)
                    clear hx hb1 HC1 HV1 HP1 cs ct
                    go_wp2_with fail
                    go_roundw
                    case rel => exact ⟨k + 1, by omega, by go_num, HV8, HP8, HC8, hb8⟩
                    case measure => simp [intOf]; omega
                  · have hkI : ¬ ((k : Int) < (n : Int)) := by omega
                    obtain rfl : n = k := by omega
                    go_wp2_with fail
                    go_roundw
                    case rel => exact ⟨y + 1, by omega, by go_num, HV, HC, hbr⟩
                    case measure => simp [intOf]; omega
            · have hyI : ¬ ((y : Int) < (m : Int)) := by omega
              clear HSA HSlt
              go_wp2_with fail
              go_ret
              exact ⟨rfl, hbr.out⟩
    · have hgI : ¬ ((0 : Int) < (g : Int)) := by omega
      obtain ⟨gs', hgs'⟩ : ∃ l', gs = l' := ⟨_, rfl⟩
      have HG2 : Hid (Gs w (.slice ga g gc) gs') := by rw [← hgs']; exact HCf.out.g
      have HSub : Hid (∀ y ∈ gs', y ∈ gs) := by rw [← hgs']; exact fun y hy => hy
      clear hgs'
      have hb4 : Hid (Below w.heap.size w ((w3.alloc (.cells #[(.slice na nl nc), (.slice vua m vuc), (.slice qa ql qc), (.slice ga g gc)] 27)).alloc (.cells #[(.slice na nl nc), (.slice vua m vuc), (.slice qa ql qc), (.slice none 0 0)] 27))) := (hb3.out.alloc hb3.out.size _).alloc (by have := hb3.out.size; simp; omega) _
      have hx4 : Below w3.heap.size w3 ((w3.alloc (.cells #[(.slice na nl nc), (.slice vua m vuc), (.slice qa ql qc), (.slice ga g gc)] 27)).alloc (.cells #[(.slice na nl nc), (.slice vua m vuc), (.slice qa ql qc), (.slice none 0 0)] 27)) := ((Below.refl _ _).alloc (Nat.le_refl _) _).alloc (by simp) _
      have HC4 := Lib.hid (HC3.out.later hx4)
      have HV4 := Lib.hid (HV.out.below hx4)
      have HN4 : Hid (Cb ((w3.alloc (.cells #[(.slice na nl nc), (.slice vua m vuc), (.slice qa ql qc), (.slice ga g gc)] 27)).alloc (.cells #[(.slice na nl nc), (.slice vua m vuc), (.slice qa ql qc), (.slice none 0 0)] 27)) (w3.heap.size + 1) (.slice na nl nc) (.slice vua m vuc) (.slice qa ql qc) (.slice none 0 0)) := by
        have := Cb.new (w3.alloc (.cells #[(.slice na nl nc), (.slice vua m vuc), (.slice qa ql qc), (.slice ga g gc)] 27)) (.slice na nl nc) (.slice vua m vuc) (.slice qa ql qc) (.slice none 0 0)
        rw [show (w3.alloc (.cells #[(.slice na nl nc), (.slice vua m vuc), (.slice qa ql qc), (.slice ga g gc)] 27)).heap.size = w3.heap.size + 1 by simp] at this
        exact this
      clear HV hx4
      have st := Lib.hid (sets_any (.slice na nl nc) (.slice vua m vuc) (.slice qa ql qc) (.slice ga g gc) (.slice ao n cap) us gs' l (x : Int) ((w3.alloc (.cells #[(.slice na nl nc), (.slice vua m vuc), (.slice qa ql qc), (.slice ga g gc)] 27)).alloc (.cells #[(.slice na nl nc), (.slice vua m vuc), (.slice qa ql qc), (.slice none 0 0)] 27)) (HCf.out.below hb4.out).u HCf.out.u64 (Three.Ss.below HG2.out hb4.out) (HL.out.below hb4.out) (by rw [HN.out]; omega))
      rw [HD.out] at st
      have q0 := HC3.out.cell.1
      have q1 := HC3.out.cell.2.1
      have q2 := HC3.out.cell.2.2.1
      have q3 := HC3.out.cell.2.2.2
      have hcs : ∀ (cs : Array Value) (i : Nat), (w3.alloc (.cells cs 27)).cell? ⟨w.heap.size, i, none⟩ = w3.cell? ⟨w.heap.size, i, none⟩ := fun cs i => World.cell?_alloc_lt w3 _ _ HC3.out.lt
      go_wp2_with fail
      refine st.out.mono ?_
      rintro e w5 ⟨vs5, rfl, hos, hx⟩
      have hb5 := Lib.hid (below_next hb4.out hx)
      have HC5 := Lib.hid (HC4.out.later hx)
      have HN5 := Lib.hid (HN4.out.later hx)
      have HV5 := Lib.hid (HV4.out.below hx)
      have HSL5 : Hid ((L.sets us gs' d l).length = n) := by rw [← HN.out]; exact L.sets_length _ _ _ _
      have HP5 : Hid (Us w5 vs5 (L.sets us gs' d l)) := by unfold Hid Us; rw [HSL5.out, ← HN.out]; exact Sl.of_owns hos
      obtain ⟨pa, pc, rfl, -⟩ := HP5.out.shape
      rw [HSL5.out] at HP5
      rw [HSL5.out]
      clear hos hx st hb4 HC4 HN4 HV4 q0 q1 q2 q3 hcs hb3 HC3
      have st := Lib.hid (sets_any (.slice na nl nc) (.slice vua m vuc) (.slice qa ql qc) (.slice none 0 0) (.slice ao n cap) us [] l (x : Int) w5 (HCf.out.below hb5.out).u HCf.out.u64 (Three.Ss.nil w5) (HL.out.below hb5.out) (by rw [HN.out]; omega))
      rw [HD.out] at st
      have q0 := HN5.out.cell.1
      have q1 := HN5.out.cell.2.1
      have q2 := HN5.out.cell.2.2.1
      have q3 := HN5.out.cell.2.2.2
      go_wp2_with fail
      refine st.out.mono ?_
      rintro e w6 ⟨vs6, rfl, hos, hx⟩
      have hb6 := Lib.hid (below_next hb5.out hx)
      have HC6 := Lib.hid (HC5.out.later hx)
      have HV6 := Lib.hid (HV5.out.below hx)
      have HP6 := Lib.hid (HP5.out.below hx)
      have HSL6 : Hid ((L.sets us [] d l).length = n) := by rw [← HN.out]; exact L.sets_length _ _ _ _
      have HZ6 : Hid (Us w6 vs6 (L.sets us [] d l)) := by unfold Hid Us; rw [HSL6.out, ← HN.out]; exact Sl.of_owns hos
      obtain ⟨za, zc, rfl, -⟩ := HZ6.out.shape
      rw [HSL6.out] at HZ6
      rw [HSL6.out]
      clear hos hx st hb5 HC5 HN5 HV5 HP5 q0 q1 q2 q3
      have HSlt5 : Hid (∀ j, L.cur us gs' d (l.drop j) < 18446744073709551616) := fun j => L.cur_lt hdl _
      have HSA5 : Hid (∀ i (_ : i < n), (L.sets us gs' d l).getD i 0 = L.cur us gs' d (l.drop i)) := fun i h => by
        rw [List.getD_eq_getElem?_getD, List.getElem?_eq_getElem (by rw [HSL5.out]; exact h), Option.getD_some, L.sets_at]
      have HSA6 : Hid (∀ i (_ : i < n), (L.sets us [] d l).getD i 0 = d) := fun i h => by
        rw [List.getD_eq_getElem?_getD, List.getElem?_eq_getElem (by rw [HSL6.out]; exact h), Option.getD_some, L.sets_at, L.cur_none]
      go_wp2_with fail
      go_loopw [15] (fun i wr => ∃ k : Nat, k ≤ n ∧ i = .int .i64 k ∧ Hid (Us wr (.slice sa n sc) (L.sets us gs d l)) ∧ Hid (Us wr (.slice pa n pc) (L.sets us gs' d l)) ∧ Hid (Us wr (.slice za n zc) (L.sets us [] d l)) ∧ Hid (Cb wr w.heap.size (.slice na nl nc) (.slice vua m vuc) (.slice qa ql qc) (.slice ga g gc)) ∧ Hid (Below w.heap.size w wr)) (fun i _ => n - (intOf i).toNat)
      case atStart => exact ⟨0, by omega, rfl, HV6, HP6, HZ6, HC6, hb6⟩
      case round =>
        clear HV6 HP6 HZ6 HC6 hb6
        obtain ⟨k, hk, rfl, HV, HP, HZ, HC, hbr⟩ := hrel
        by_cases hkn : k < n
        · have hkI : (k : Int) < (n : Int) := by omega
          have hk0 : (0 : Int) ≤ (k : Int) := by omega
          obtain ⟨b9, o9, rfl, -⟩ := HV.out.at (j := k) (by rw [HSL.out]; exact hkn)
          obtain ⟨b8, o8, rfl, -⟩ := HP.out.at (j := k) (by rw [HSL5.out]; exact hkn)
          obtain ⟨b7, o7, rfl, -⟩ := HZ.out.at (j := k) (by rw [HSL6.out]; exact hkn)
          have hslt := HSlt.out k
          have hslt5 := HSlt5.out k
          have hsa := HSA.out k hkn
          have hsa5 := HSA5.out k hkn
          have hsa6 := HSA6.out k hkn
          have hsub := (L.cur_mono (us := us) HSub.out (L.Sub.refl d) (l.drop k)).or
          obtain ⟨s, hs⟩ : ∃ s, L.cur us gs d (l.drop k) = s := ⟨_, rfl⟩
          rw [hs] at hslt hsa hsub
          obtain ⟨t, ht⟩ : ∃ s, L.cur us gs' d (l.drop k) = s := ⟨_, rfl⟩
          rw [ht] at hslt5 hsa5 hsub
          have HSAk := Lib.hid hsa
          have HSAk5 := Lib.hid hsa5
          have HSAk6 := Lib.hid hsa6
          have hor : bits BinOp.or IntKind.u64 (t : Int) (s : Int) = (s : Int) := by rw [u64_or_nat t s hslt5 hslt, hsub]
          have hne : ((s : Int) != (s : Int)) = false := by simp
          have hned : ((d : Int) != (d : Int)) = false := by simp
          clear hs ht hsa hsa5 hsa6 hsub
          go_wp2_with fail
          refine wp_region_mix ext_grow [(0, false), (1, false), (2, false), (3, false), (4, false), (5, false), (6, false), (7, false), (8, false), (9, false), (10, false), (11, false), (12, false), (13, false), (14, false), (15, false), (16, false), (17, false), (18, false), (19, false), (20, false), (21, false), (22, false), (23, false), (24, false)] (by kernel_rfl) (by kernel_rfl) ?_
          have HV1 : Hid (Us wr.drew (.slice (some ⟨b9, o9, none⟩) n sc) (L.sets us gs d l)) := HV.out
          have HP1 : Hid (Us wr.drew (.slice (some ⟨b8, o8, none⟩) n pc) (L.sets us gs' d l)) := HP.out
          have HZ1 : Hid (Us wr.drew (.slice (some ⟨b7, o7, none⟩) n zc) (L.sets us [] d l)) := HZ.out
          have HC1 : Hid (Cb wr.drew w.heap.size (.slice na nl nc) (.slice vua m vuc) (.slice qa ql qc) (.slice ga g gc)) := HC.out
          have hb1 : Hid (Below w.heap.size w wr.drew) := hbr.out.drew
          clear HV HP HZ HC hbr
          generalize wr.drew = w7 at *
          have cs : ∀ z : Later w7, z.1.cell? ⟨b9, o9 + k, none⟩ = some (.int .u64 (s : Int)) := fun z => by
            obtain ⟨b', o', e, hc⟩ := (HV1.out.below z.2).at (j := k) (by rw [HSL.out]; exact hkn)
            obtain ⟨rfl, rfl⟩ : b9 = b' ∧ o9 = o' := by simpa using e
            have := hc k (by rw [HSL.out]; exact hkn)
            rw [HSAk.out] at this
            exact this
          have ct : ∀ z : Later w7, z.1.cell? ⟨b8, o8 + k, none⟩ = some (.int .u64 (t : Int)) := fun z => by
            obtain ⟨b', o', e, hc⟩ := (HP1.out.below z.2).at (j := k) (by rw [HSL5.out]; exact hkn)
            obtain ⟨rfl, rfl⟩ : b8 = b' ∧ o8 = o' := by simpa using e
            have := hc k (by rw [HSL5.out]; exact hkn)
            rw [HSAk5.out] at this
            exact this
          have cz : ∀ z : Later w7, z.1.cell? ⟨b7, o7 + k, none⟩ = some (.int .u64 (d : Int)) := fun z => by
            obtain ⟨b', o', e, hc⟩ := (HZ1.out.below z.2).at (j := k) (by rw [HSL6.out]; exact hkn)
            obtain ⟨rfl, rfl⟩ : b7 = b' ∧ o7 = o' := by simpa using e
            have := hc k (by rw [HSL6.out]; exact hkn)
            rw [HSAk6.out] at this
            exact this
          have c1 : ∀ z : Later w7, z.1.cell? ⟨w.heap.size, 1, none⟩ = some (.slice vua m vuc) := fun z => (HC1.out.later z.2).cell.2.1
          have HFy : Hid (∀ z : Later w7, Calls Tryd.prog 16 #[(.slice vua m vuc), .int .i64 x] z.1 fun e w' => e = .returned (.int .u64 d) ∧ Ext z.1 w') := fun z => by
            have := refDown_any (.slice vua m vuc) us (x : Int) z.1 (HCf.out.below (below_next hb1.out z.2)).u HCf.out.u64
            rw [HD.out] at this
            exact this.mono fun e w' ⟨h1, h2⟩ => ⟨h1, ext_of_eq h2⟩
          repeat (refine mix_soft rfl (fun K hK => ?_); go_simp; (first | (refine hK _ ?_; clear hK K) | (apply Exists.intro; refine ⟨fun z => ?_, hK _ ?_⟩; (first | (go_at_call 16; with_reducible exact HFy.out z)); clear hK K)))
          refine mix_done fun w8 hx => ?_
          have hb8 := Lib.hid (below_next hb1.out hx)
          have HC8 := Lib.hid (HC1.out.later hx)
          have HV8 := Lib.hid (HV1.out.below hx)
          have HP8 := Lib.hid (HP1.out.below hx)
          have HZ8 := Lib.hid (HZ1.out.below hx)
          clear hx hb1 HC1 HV1 HP1 HZ1 cs ct cz c1 HFy
          go_wp2_with fail
          go_roundw
          case rel => exact ⟨k + 1, by omega, by go_num, HV8, HP8, HZ8, HC8, hb8⟩
          case measure => simp [intOf]; omega
        · have hkI : ¬ ((k : Int) < (n : Int)) := by omega
          obtain rfl : n = k := by omega
          clear HP HZ HSA5 HSA6 HSlt5 HSL5 HSL6
          go_wp2_with fail
          go_loopw [16] (fun i wr => ∃ k : Nat, k ≤ m ∧ i = .int .i64 k ∧ Hid (Us wr (.slice sa n sc) (L.sets us gs d l)) ∧ Hid (Cb wr w.heap.size (.slice na nl nc) (.slice vua m vuc) (.slice qa ql qc) (.slice ga g gc)) ∧ Hid (Below w.heap.size w wr)) (fun i _ => m - (intOf i).toNat)
          case atStart => exact ⟨0, by omega, rfl, HV, HC, hbr⟩
          case round =>
            clear HV HC hbr
            obtain ⟨y, hy, rfl, HV, HC, hbr⟩ := hrel
            have q0 := HC.out.cell.1
            have q1 := HC.out.cell.2.1
            have q2 := HC.out.cell.2.2.1
            have q3 := HC.out.cell.2.2.2
            by_cases hym : y < m
            · have hyI : (y : Int) < (m : Int) := by omega
              have hy0 : (0 : Int) ≤ (y : Int) := by omega
              have st := Lib.hid (refLeq_any (.slice vua m vuc) us (x : Int) (y : Int) _ (HCf.out.below hbr.out).u HCf.out.u64)
              have HDS : Hid (L.leq us (x : Int) (y : Int) = true → L.Sub d (L.down us (y : Int))) := fun h => by rw [← HD.out]; exact L.down_sub HLat.out (by rw [HM.out]; exact hxm) (by rw [HM.out]; exact hym) h
              obtain ⟨lq, hlq⟩ : ∃ b, L.leq us (x : Int) (y : Int) = b := ⟨_, rfl⟩
              rw [hlq] at st HDS
              clear hlq
              go_wp2_with fail
              refine st.out.mono ?_
              rintro e w' ⟨rfl, rfl⟩
              clear st
              cases lq with
              | false =>
                clear HDS
                go_wp2_with fail
                go_roundw
                case rel => exact ⟨y + 1, by omega, by go_num, HV, HC, hbr⟩
                case measure => simp [intOf]; omega
              | true =>
                have hds := HDS.out rfl
                have hdyl := L.down_lt us (y : Int)
                have st := Lib.hid (sets_any (.slice na nl nc) (.slice vua m vuc) (.slice qa ql qc) (.slice ga g gc) (.slice ao n cap) us gs l (y : Int) _ (HCf.out.below hbr.out).u HCf.out.u64 (HCf.out.below hbr.out).g (HL.out.below hbr.out) (by rw [HN.out]; omega))
                obtain ⟨dy, hdy⟩ : ∃ b, L.down us (y : Int) = b := ⟨_, rfl⟩
                rw [hdy] at st hds hdyl
                have HDS2 := Lib.hid hds
                clear hdy hds HDS
                go_wp2_with fail
                refine st.out.mono ?_
                rintro e w5 ⟨vs5, rfl, hos, hx⟩
                have hb5 := Lib.hid (below_next hbr.out hx)
                have HC5 := Lib.hid (HC.out.later hx)
                have HV5 := Lib.hid (HV.out.below hx)
                have HSL5 : Hid ((L.sets us gs dy l).length = n) := by rw [← HN.out]; exact L.sets_length _ _ _ _
                have HP5 : Hid (Us w5 vs5 (L.sets us gs dy l)) := by unfold Hid Us; rw [HSL5.out, ← HN.out]; exact Sl.of_owns hos
                obtain ⟨ha, hc, rfl, -⟩ := HP5.out.shape
                rw [HSL5.out] at HP5
                rw [HSL5.out]
                have HSlt5 : Hid (∀ j, L.cur us gs dy (l.drop j) < 18446744073709551616) := fun j => L.cur_lt hdyl _
                have HSA5 : Hid (∀ i (_ : i < n), (L.sets us gs dy l).getD i 0 = L.cur us gs dy (l.drop i)) := fun i h => by
                  rw [List.getD_eq_getElem?_getD, List.getElem?_eq_getElem (by rw [HSL5.out]; exact h), Option.getD_some, L.sets_at]
                clear hos hx st hbr HC HV q0 q1 q2 q3
                go_wp2_with fail
                go_loopw [18] (fun i wr => ∃ k : Nat, k ≤ n ∧ i = .int .i64 k ∧ Hid (Us wr (.slice sa n sc) (L.sets us gs d l)) ∧ Hid (Us wr (.slice ha n hc) (L.sets us gs dy l)) ∧ Hid (Cb wr w.heap.size (.slice na nl nc) (.slice vua m vuc) (.slice qa ql qc) (.slice ga g gc)) ∧ Hid (Below w.heap.size w wr)) (fun i _ => n - (intOf i).toNat)
                case atStart => exact ⟨0, by omega, rfl, HV5, HP5, HC5, hb5⟩
                case round =>
                  clear HV5 HP5 HC5 hb5
                  obtain ⟨k, hk, rfl, HV, HP, HC, hbr⟩ := hrel
                  by_cases hkn : k < n
                  · have hkI : (k : Int) < (n : Int) := by omega
                    have hk0 : (0 : Int) ≤ (k : Int) := by omega
                    obtain ⟨b9, o9, rfl, -⟩ := HV.out.at (j := k) (by rw [HSL.out]; exact hkn)
                    obtain ⟨b8, o8, rfl, -⟩ := HP.out.at (j := k) (by rw [HSL5.out]; exact hkn)
                    have hslt := HSlt.out k
                    have hslt5 := HSlt5.out k
                    have hsa := HSA.out k hkn
                    have hsa5 := HSA5.out k hkn
                    have hsub := (L.cur_mono (us := us) (gs := gs) (fun g h => h) HDS2.out (l.drop k)).ro
                    obtain ⟨s, hs⟩ : ∃ s, L.cur us gs d (l.drop k) = s := ⟨_, rfl⟩
                    rw [hs] at hslt hsa hsub
                    obtain ⟨t, ht⟩ : ∃ s, L.cur us gs dy (l.drop k) = s := ⟨_, rfl⟩
                    rw [ht] at hslt5 hsa5 hsub
                    have HSAk := Lib.hid hsa
                    have HSAk5 := Lib.hid hsa5
                    have hor : bits BinOp.or IntKind.u64 (t : Int) (s : Int) = (t : Int) := by rw [u64_or_nat t s hslt5 hslt, hsub]
                    have hne : ((t : Int) != (t : Int)) = false := by simp
                    clear hs ht hsa hsa5 hsub
                    go_wp2_with fail
                    refine wp_region_mix ext_grow [(0, false), (1, false), (2, false), (3, false), (4, false), (5, false), (6, false), (7, false), (8, false), (9, false), (10, false), (11, false), (12, false), (13, false)] (by kernel_rfl) (by kernel_rfl) ?_
                    have HV1 : Hid (Us wr.drew (.slice (some ⟨b9, o9, none⟩) n sc) (L.sets us gs d l)) := HV.out
                    have HP1 : Hid (Us wr.drew (.slice (some ⟨b8, o8, none⟩) n hc) (L.sets us gs dy l)) := HP.out
                    have HC1 : Hid (Cb wr.drew w.heap.size (.slice na nl nc) (.slice vua m vuc) (.slice qa ql qc) (.slice ga g gc)) := HC.out
                    have hb1 : Hid (Below w.heap.size w wr.drew) := hbr.out.drew
                    clear HV HP HC hbr
                    generalize wr.drew = w7 at *
                    have cs : ∀ z : Later w7, z.1.cell? ⟨b9, o9 + k, none⟩ = some (.int .u64 (s : Int)) := fun z => by
                      obtain ⟨b', o', e, hc⟩ := (HV1.out.below z.2).at (j := k) (by rw [HSL.out]; exact hkn)
                      obtain ⟨rfl, rfl⟩ : b9 = b' ∧ o9 = o' := by simpa using e
                      have := hc k (by rw [HSL.out]; exact hkn)
                      rw [HSAk.out] at this
                      exact this
                    have ct : ∀ z : Later w7, z.1.cell? ⟨b8, o8 + k, none⟩ = some (.int .u64 (t : Int)) := fun z => by
                      obtain ⟨b', o', e, hc⟩ := (HP1.out.below z.2).at (j := k) (by rw [HSL5.out]; exact hkn)
                      obtain ⟨rfl, rfl⟩ : b8 = b' ∧ o8 = o' := by simpa using e
                      have := hc k (by rw [HSL5.out]; exact hkn)
                      rw [HSAk5.out] at this
                      exact this
                    repeat (refine mix_soft rfl (fun K hK => ?_); go_simp; (first | (refine hK _ ?_; clear hK K) | (apply Exists.intro; refine ⟨fun z => ?_, hK _ ?_⟩; (first | done); clear hK K)))
                    refine mix_done fun w8 hx => ?_
                    have hb8 := Lib.hid (below_next hb1.out hx)
                    have HC8 := Lib.hid (HC1.out.later hx)
                    have HV8 := Lib.hid (HV1.out.below hx)
                    have HP8 := Lib.hid (HP1.out.below hx)
                    clear hx hb1 HC1 HV1 HP1 cs ct
                    go_wp2_with fail
                    go_roundw
                    case rel => exact ⟨k + 1, by omega, by go_num, HV8, HP8, HC8, hb8⟩
                    case measure => simp [intOf]; omega
                  · have hkI : ¬ ((k : Int) < (n : Int)) := by omega
                    obtain rfl : n = k := by omega
                    go_wp2_with fail
                    go_roundw
                    case rel => exact ⟨y + 1, by omega, by go_num, HV, HC, hbr⟩
                    case measure => simp [intOf]; omega
            · have hyI : ¬ ((y : Int) < (m : Int)) := by omega
              clear HSA HSlt
              go_wp2_with fail
              go_ret
              exact ⟨rfl, hbr.out⟩
end Go.Proofs.YtljpfocmnppjgaaDoor
