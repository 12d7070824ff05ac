/- PurgeTells returns true. -/
import Derived.Test.YtljpfocmnppjgaaDoorOp16
namespace Go.Proofs.YtljpfocmnppjgaaDoor
open Go Go.RowKit

set_option maxRecDepth 4000 in
set_option maxHeartbeats 8000000 in
theorem putells_any (vn vu vq vg vl : Value) (ns : List (List UInt8)) (us : List Nat) (qs : List Int) (gs : List Gr) (l : List Opr) (level : Int) (w : World) (h : Cf w vn vu vq vg ns us qs gs) (hl : Os w vl l) (ht : DTab w) :
    Calls Tryd.prog 3 #[cfv vn vu vq vg, vl, .int .i64 level] w fun e w' => e = .returned (.bool true) ∧ Below w.heap.size w w' := by
  obtain ⟨ao, cap, rfl, -⟩ := hl.shape
  have hbig := hl.len
  have HCf := Lib.hid h
  have HL := Lib.hid hl
  have HT := Lib.hid ht
  have HA := Lib.hid (fun W (hW : Below w.heap.size w W) => awake_any W (ht.below hW))
  have HS := Lib.hid (fun W (hW : Below w.heap.size w W) => small_any vn vu vq vg (.slice ao l.length cap) ns us qs gs l W (h.below hW) (hl.below hW))
  have HCB := Lib.hid (Cb.new w vn vu vq vg)
  have hb0 : Hid (Below w.heap.size w (w.alloc (.cells #[vn, vu, vq, vg] 27))) := (Below.refl _ _).alloc (Nat.le_refl _) _
  clear h hl ht
  obtain ⟨n, hn⟩ : ∃ n, l.length = n := ⟨_, rfl⟩
  have HN := Lib.hid hn
  rw [hn] at HL hbig HS
  rw [hn]
  clear hn
  go_enter Tryd.func3, Tryd.ntmps3
  go_wp2_with fail
  refine (HA.out _ hb0.out).mono ?_
  rintro e w1 ⟨rfl, hx⟩
  have HC1 := Lib.hid (HCB.out.later hx)
  have hb1 := Lib.hid (below_next hb0.out hx)
  have st := Lib.hid (HS.out w1 hb1.out)
  have q0 := HC1.out.cell.1
  have q1 := HC1.out.cell.2.1
  have q2 := HC1.out.cell.2.2.1
  have q3 := HC1.out.cell.2.2.2
  clear hx HA HS HCB hb0
  go_wp2_with fail
  refine st.out.mono ?_
  rintro e w2 ⟨bb, rfl, hsm, hx⟩
  have HC2 := Lib.hid (HC1.out.later hx)
  have hb2 := Lib.hid (below_next hb1.out hx)
  clear hx st q0 q1 q2 q3 HC1 hb1
  cases bb with
  | false =>
    clear hsm
    go_wp2_with fail
    go_ret
    exact ⟨rfl, hb2.out⟩
  | true =>
    have HSm := Lib.hid (hsm rfl)
    have h120 : n ≤ 120 := by rw [← HN.out]; exact HSm.out.few
    have HFew : Hid (Few l) := fun o ho => Nat.le_trans (HSm.out.keep o ho) (by decide)
    clear hsm
    have st := Lib.hid (refSets_any vn vu vq vg (.slice ao n cap) us gs l level w2 (HCf.out.below hb2.out).u HCf.out.u64 (HCf.out.below hb2.out).g (HL.out.below hb2.out) (by rw [HN.out]; omega))
    have q0 := HC2.out.cell.1
    have q1 := HC2.out.cell.2.1
    have q2 := HC2.out.cell.2.2.1
    have q3 := HC2.out.cell.2.2.2
    have hdl := L.down_lt us level
    go_wp2_with fail
    refine st.out.mono ?_
    rintro e w3 ⟨vs, rfl, hos, hx⟩
    have HSL : Hid ((L.sets us gs (L.down us level) l).length = n) := by rw [← HN.out]; exact L.sets_length _ _ _ _
    have HV : Hid (Us w3 vs (L.sets us gs (L.down us level) l)) := by
      unfold Hid Us
      rw [HSL.out, ← HN.out]
      exact Sl.of_owns hos
    have HC3 := Lib.hid (HC2.out.later hx)
    have hb3 := Lib.hid (below_next hb2.out hx)
    have HSlt : Hid (∀ j, L.cur us gs (L.down us level) (l.drop j) < 18446744073709551616) := fun j => L.cur_lt hdl _
    have HSA : Hid (∀ i (_ : i < n), (L.sets us gs (L.down us level) l).getD i 0 = L.cur us gs (L.down us level) (l.drop i)) := fun i h => by
      rw [List.getD_eq_getElem?_getD, List.getElem?_eq_getElem (by rw [HSL.out]; exact h), Option.getD_some, L.sets_at]
    obtain ⟨sa, sc, rfl, -⟩ := HV.out.shape
    rw [HSL.out] at HV
    rw [HSL.out]
    clear hos hx st q0 q1 q2 q3 HC2 hb2 hdl
    go_wp2_with fail
    go_loopw [10] (fun i wr => ∃ k : Nat, k ≤ n ∧ i = .int .i64 k ∧ Hid (Us wr (.slice sa n sc) (L.sets us gs (L.down us level) l)) ∧ Hid (Cb wr w.heap.size vn vu vq vg) ∧ Hid (Below w.heap.size w wr)) (fun i _ => n - (intOf i).toNat)
    case atStart => exact ⟨0, by omega, rfl, HV, HC3, hb3⟩
    case round =>
      clear HV HC3 hb3
      obtain ⟨k, hk, rfl, HV, HC, hbr⟩ := hrel
      by_cases hkn : k < n
      · have hkI : (k : Int) < (n : Int) := by omega
        have hk0 : (0 : Int) ≤ (k : Int) := by omega
        obtain ⟨b, off, u, rfl, hks, hat⟩ := HL.out.at (j := k) (by rw [HN.out]; exact hkn)
        obtain ⟨ua, uc, rfl, -⟩ := hks.shape
        generalize (l[k]'(by rw [HN.out]; exact hkn)).keep.length = uq at *
        obtain ⟨o, ho⟩ : ∃ o, l[k]'(by rw [HN.out]; exact hkn) = o := ⟨_, rfl⟩
        rw [ho] at hat
        have HAt := Lib.hid hat
        obtain ⟨b9, o9, rfl, -⟩ := HV.out.at (j := k) (by rw [HSL.out]; exact hkn)
        have hslt := HSlt.out k
        have hsa := HSA.out k hkn
        obtain ⟨s, hs⟩ : ∃ s, L.cur us gs (L.down us level) (l.drop k) = s := ⟨_, rfl⟩
        rw [hs] at hslt hsa
        have HSAk := Lib.hid hsa
        clear ho hat hks hs hsa
        have HF1 := Lib.hid (fun W (hW : Below w.heap.size w W) => flows_any vn vu vq vg gs o (.slice ua uq uc) s W (HCf.out.below hW).g hslt)
        have HF2 := Lib.hid (fun W (hW : Below w.heap.size w W) => refFlows_any vn vu vq vg gs o (.slice ua uq uc) s W (HCf.out.below hW).g hslt)
        generalize L.flows gs o s = fl at *
        obtain ⟨o0, o1, o2, o3, o4, o5, o6, o7, o8, o9', k9⟩ := o
        have dfl : (fl != fl) = false := by simp
        go_wp2_with fail
        refine wp_region_mix ext_grow [(0, false), (1, false), (2, false), (3, false), (4, false), (5, false), (6, false), (7, false), (8, false), (9, false), (10, false), (11, false), (12, false), (13, false), (14, false), (15, false), (16, false), (17, false), (18, false), (19, false), (20, false)] (by kernel_rfl) (by kernel_rfl) ?_
        have HV5 : Hid (Us wr.drew (.slice (some ⟨b9, o9, none⟩) n sc) (L.sets us gs (L.down us level) l)) := HV.out
        have HC5 : Hid (Cb wr.drew w.heap.size vn vu vq vg) := HC.out
        have hb5 : Hid (Below w.heap.size w wr.drew) := hbr.out.drew
        clear HV HC hbr
        generalize wr.drew = w5 at *
        have hbx : ∀ z : Later w5, Below w.heap.size w z.1 := fun z => below_next hb5.out z.2
        have c0 : ∀ z : Later w5, z.1.cell? ⟨w.heap.size, 0, none⟩ = some vn := fun z => (HC5.out.later z.2).cell.1
        have c1 : ∀ z : Later w5, z.1.cell? ⟨w.heap.size, 1, none⟩ = some vu := fun z => (HC5.out.later z.2).cell.2.1
        have c2 : ∀ z : Later w5, z.1.cell? ⟨w.heap.size, 2, none⟩ = some vq := fun z => (HC5.out.later z.2).cell.2.2.1
        have c3 : ∀ z : Later w5, z.1.cell? ⟨w.heap.size, 3, none⟩ = some vg := fun z => (HC5.out.later z.2).cell.2.2.2
        have cs : ∀ z : Later w5, z.1.cell? ⟨b9, o9 + k, none⟩ = some (.int .u64 (s : Int)) := fun z => by
          obtain ⟨b', o', e, hc⟩ := (HV5.out.below z.2).at (j := k) (by rw [HSL.out]; exact hkn)
          obtain ⟨rfl, rfl⟩ : b9 = b' ∧ o9 = o' := by simpa using e
          have := hc k (by rw [HSL.out]; exact hkn)
          rw [HSAk.out] at this
          exact this
        have p0 : ∀ z : Later w5, z.1.cell? ⟨b, off + k * 11, none⟩ = some (.int .i64 o0) := fun z => (HAt.out z.1 (hbx z)).c0
        have p1 : ∀ z : Later w5, z.1.cell? ⟨b, off + k * 11 + 1, none⟩ = some (.int .i64 o1) := fun z => (HAt.out z.1 (hbx z)).c1
        have p2 : ∀ z : Later w5, z.1.cell? ⟨b, off + k * 11 + 2, none⟩ = some (.int .i64 o2) := fun z => (HAt.out z.1 (hbx z)).c2
        have p3 : ∀ z : Later w5, z.1.cell? ⟨b, off + k * 11 + 3, none⟩ = some (.int .i64 o3) := fun z => (HAt.out z.1 (hbx z)).c3
        have p4 : ∀ z : Later w5, z.1.cell? ⟨b, off + k * 11 + 4, none⟩ = some (.string (str o4)) := fun z => (HAt.out z.1 (hbx z)).c4
        have p5 : ∀ z : Later w5, z.1.cell? ⟨b, off + k * 11 + 5, none⟩ = some (.string (str o5)) := fun z => (HAt.out z.1 (hbx z)).c5
        have p6 : ∀ z : Later w5, z.1.cell? ⟨b, off + k * 11 + 6, none⟩ = some (.string (str o6)) := fun z => (HAt.out z.1 (hbx z)).c6
        have p7 : ∀ z : Later w5, z.1.cell? ⟨b, off + k * 11 + 7, none⟩ = some (.int .i64 o7) := fun z => (HAt.out z.1 (hbx z)).c7
        have p8 : ∀ z : Later w5, z.1.cell? ⟨b, off + k * 11 + 8, none⟩ = some (.int .i64 o8) := fun z => (HAt.out z.1 (hbx z)).c8
        have p9 : ∀ z : Later w5, z.1.cell? ⟨b, off + k * 11 + 9, none⟩ = some (.int .i64 o9') := fun z => (HAt.out z.1 (hbx z)).c9
        have p10 : ∀ z : Later w5, z.1.cell? ⟨b, off + k * 11 + 10, none⟩ = some (.slice ua uq uc) := fun z => (HAt.out z.1 (hbx z)).c10
        have HFy : Hid (∀ z : Later w5, Calls Tryd.prog 9 #[.agg #[vn, vu, vq, vg], .agg #[.int .i64 o0, .int .i64 o1, .int .i64 o2, .int .i64 o3, .string (str o4), .string (str o5), .string (str o6), .int .i64 o7, .int .i64 o8, .int .i64 o9', .slice ua uq uc], .int .u64 s] z.1 fun e w' => e = .returned (.bool fl) ∧ Ext z.1 w') := fun z => HF1.out z.1 (hbx z)
        have HFz : Hid (∀ z : Later w5, Calls Tryd.prog 10 #[.agg #[vn, vu, vq, vg], .agg #[.int .i64 o0, .int .i64 o1, .int .i64 o2, .int .i64 o3, .string (str o4), .string (str o5), .string (str o6), .int .i64 o7, .int .i64 o8, .int .i64 o9', .slice ua uq uc], .int .u64 s] z.1 fun e w' => e = .returned (.bool fl) ∧ Ext z.1 w') := fun z => HF2.out z.1 (hbx z)
        have HBX := Lib.hid hbx
        clear hbx HF1 HF2
        repeat (refine mix_soft rfl (fun K hK => ?_); go_simp; (first | (refine hK _ ?_; clear hK K) | (apply Exists.intro; refine ⟨fun z => ?_, hK _ ?_⟩; (first | (go_at_call 9; with_reducible exact HFy.out z) | (go_at_call 10; with_reducible exact HFz.out z)); clear hK K)))
        refine mix_done fun w6 hx => ?_
        have hb6 : Hid (Below w.heap.size w w6) := HBX.out ⟨w6, hx⟩
        have HC6 := Lib.hid (HC5.out.later hx)
        have HV6 := Lib.hid (HV5.out.below hx)
        clear hx HBX hb5 HC5 HV5 c0 c1 c2 c3 cs p0 p1 p2 p3 p4 p5 p6 p7 p8 p9 p10 HFy HFz dfl
        go_wp2_with fail
        go_roundw
        case rel => exact ⟨k + 1, by omega, by go_num, HV6, HC6, hb6⟩
        case measure => simp [intOf]; omega
      · have hkI : ¬ ((k : Int) < (n : Int)) := by omega
        clear HSA HSlt
        go_wp2_with fail
        refine wp_region_mix ext_grow [(0, false), (1, false), (2, false), (4, false), (3, true), (5, false), (6, false), (7, false), (8, false), (9, false), (11, false), (12, false), (13, false), (10, true), (14, true), (15, false), (16, false), (17, false)] (by kernel_rfl) (by kernel_rfl) ?_
        have HV5 : Hid (Us wr.drew (.slice sa n sc) (L.sets us gs (L.down us level) l)) := HV.out
        have HC5 : Hid (Cb wr.drew w.heap.size vn vu vq vg) := HC.out
        have hb5 : Hid (Below w.heap.size w wr.drew) := hbr.out.drew
        clear HV HC hbr
        generalize wr.drew = w5 at *
        have c0 : ∀ z : Later w5, z.1.cell? ⟨w.heap.size, 0, none⟩ = some vn := fun z => (HC5.out.later z.2).cell.1
        have c1 : ∀ z : Later w5, z.1.cell? ⟨w.heap.size, 1, none⟩ = some vu := fun z => (HC5.out.later z.2).cell.2.1
        have c2 : ∀ z : Later w5, z.1.cell? ⟨w.heap.size, 2, none⟩ = some vq := fun z => (HC5.out.later z.2).cell.2.2.1
        have c3 : ∀ z : Later w5, z.1.cell? ⟨w.heap.size, 3, none⟩ = some vg := fun z => (HC5.out.later z.2).cell.2.2.2
        repeat (refine mix_soft rfl (fun K hK => ?_); go_simp; (first | (refine hK _ ?_; clear hK K) | (apply Exists.intro; refine ⟨fun z => ?_, hK _ ?_⟩; (first | done); clear hK K)))
        clear c0 c1 c2 c3
        refine mix_loud rfl (fun K hK => ?_)
        go_simp
        intro x
        have hbx := below_next hb5.out x.2
        refine (sets_any vn vu vq vg (.slice ao n cap) us gs l level x.1 (HCf.out.below hbx).u HCf.out.u64 (HCf.out.below hbx).g (HL.out.below hbx) (by rw [HN.out]; omega)).mono ?_
        rintro e w6 ⟨v6, rfl, hos, hx⟩
        refine ⟨_, rfl, hx, hK _ _ ?_⟩
        clear hK K
        have hx6 := below_next x.2 hx
        have HU6 : Hid (Us w6 v6 (L.sets us gs (L.down us level) l)) := by
          unfold Hid Us
          rw [HSL.out, ← HN.out]
          exact Sl.of_owns hos
        have HV6 := Lib.hid (HV5.out.below hx6)
        have HC6 := Lib.hid (HC5.out.later hx6)
        have hb6 := Lib.hid (below_next hb5.out hx6)
        clear hos hx hbx x hx6 HV5 HC5 hb5
        have HC5 := HC6
        have HSame : Hid (∀ z : Later w6, Calls Tryd.prog 11 #[v6, .slice sa n sc] z.1 fun e w' => e = .returned (.bool true) ∧ Ext z.1 w') := fun z => by
          have := same_any v6 (.slice sa n sc) _ _ z.1 (HU6.out.below z.2) (HV6.out.below z.2)
          rw [show (L.sets us gs (L.down us level) l == L.sets us gs (L.down us level) l) = true by simp] at this
          exact this
        have c0 : ∀ z : Later w6, z.1.cell? ⟨w.heap.size, 0, none⟩ = some vn := fun z => (HC5.out.later z.2).cell.1
        have c1 : ∀ z : Later w6, z.1.cell? ⟨w.heap.size, 1, none⟩ = some vu := fun z => (HC5.out.later z.2).cell.2.1
        have c2 : ∀ z : Later w6, z.1.cell? ⟨w.heap.size, 2, none⟩ = some vq := fun z => (HC5.out.later z.2).cell.2.2.1
        have c3 : ∀ z : Later w6, z.1.cell? ⟨w.heap.size, 3, none⟩ = some vg := fun z => (HC5.out.later z.2).cell.2.2.2
        repeat (refine mix_soft rfl (fun K hK => ?_); go_simp; (first | (refine hK _ ?_; clear hK K) | (apply Exists.intro; refine ⟨fun z => ?_, hK _ ?_⟩; (first | (go_at_call 11; with_reducible exact HSame.out z)); clear hK K)))
        clear c0 c1 c2 c3 HSame HU6 HV6 HC5 HC6
        refine mix_loud rfl (fun K hK => ?_)
        go_simp
        intro x
        have hbx := below_next hb6.out x.2
        refine (purge_any vn vu vq vg (.slice ao n cap) us gs l level x.1 (HCf.out.below hbx).u HCf.out.u64 (HCf.out.below hbx).g (HL.out.below hbx) (by rw [HN.out]; omega) HFew.out (HT.out.below hbx)).mono ?_
        rintro e w7 ⟨v7, ws7, rfl, hob, hx⟩
        refine ⟨_, rfl, hx, hK _ _ ?_⟩
        clear hK K
        have HO7 := Lib.hid (hob.os hx)
        have hb7 := Lib.hid (below_next hbx hx)
        clear hob hx hbx x hb6
        refine mix_loud rfl (fun K hK => ?_)
        go_simp
        intro x
        have hbx := below_next hb7.out x.2
        refine (refPurge_any vn vu vq vg (.slice ao n cap) us gs l level x.1 (HCf.out.below hbx).u HCf.out.u64 (HCf.out.below hbx).g (HL.out.below hbx) (by rw [HN.out]; omega) HFew.out).mono ?_
        rintro e w8 ⟨v8, ws8, rfl, hob, hx⟩
        refine ⟨_, rfl, hx, hK _ _ ?_⟩
        clear hK K
        have HO8 := Lib.hid (hob.os hx)
        have HO78 := Lib.hid (HO7.out.below (below_next x.2 hx))
        have hb8 := Lib.hid (below_next hbx hx)
        clear hob hx hbx x hb7 HO7
        have HAll : Hid (∀ z : Later w8, Calls Tryd.prog 13 #[v7, v8] z.1 fun e w' => e = .returned (.bool true) ∧ Ext z.1 w') := fun z =>
          (refAll_any v7 v8 _ _ z.1 (HO78.out.below z.2) (HO8.out.below z.2)).mono fun e w' ⟨b, h1, h2, h3⟩ => ⟨by rw [h1, h2.2 rfl], h3⟩
        repeat (refine mix_soft rfl (fun K hK => ?_); go_simp; (first | (refine hK _ ?_; clear hK K) | (apply Exists.intro; refine ⟨fun z => ?_, hK _ ?_⟩; (first | (go_at_call 13; with_reducible exact HAll.out z)); clear hK K)))
        clear HAll HO8 HO78
        refine mix_done fun w9 hx => ?_
        have hfin := Lib.hid (below_next hb8.out hx)
        clear hx hb8
        go_wp2_with fail
        go_ret
        exact ⟨rfl, hfin.out⟩
end Go.Proofs.YtljpfocmnppjgaaDoor
