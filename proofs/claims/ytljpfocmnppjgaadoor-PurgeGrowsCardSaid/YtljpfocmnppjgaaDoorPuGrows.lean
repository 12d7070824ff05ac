/- PurgeGrows returns true. -/
import Derived.Test.YtljpfocmnppjgaaDoorOp16
import Derived.Test.YtljpfocmnppjgaaDoorPuPlain
namespace Go.Proofs.YtljpfocmnppjgaaDoor
open Go Go.RowKit

namespace L
/-- Whether any operation of the first k flows, by the labels ahead of it. -/
def anyTo (us : List Nat) (gs : List Gr) (d : Nat) (l : List Opr) (k : Nat) : Bool := (List.range k).any fun j => match l[j]? with | some o => flows gs o (cur us gs d (l.drop j)) | none => false
theorem anyTo_succ {us : List Nat} {gs : List Gr} {d : Nat} {l : List Opr} {k : Nat} (h : k < l.length) : anyTo us gs d l (k + 1) = (anyTo us gs d l k || flows gs l[k] (cur us gs d (l.drop k))) := by
  unfold anyTo
  rw [List.range_succ, List.any_append, List.any_cons, List.any_nil, Bool.or_false, List.getElem?_eq_getElem h]
theorem anyTo_none {us : List Nat} {gs : List Gr} {d : Nat} {l : List Opr} {k : Nat} (h : anyTo us gs d l k = false) : ∀ i (_ : i < k) (h2 : i < l.length), flows gs l[i] (cur us gs d (l.drop i)) = false := fun i h1 h2 => by
  unfold anyTo at h
  have h3 := List.any_eq_false.1 h i (List.mem_range.2 h1)
  rw [List.getElem?_eq_getElem h2] at h3
  simpa using h3
end L

set_option maxRecDepth 4000 in
set_option maxHeartbeats 16000000 in
theorem pugrows_any (vn vu vq vg vl : Value) (ns : List (List UInt8)) (us : List Nat) (qs : List Int) (gs : List Gr) (l : List Opr) (lv : Nat) (w : World) (h : Cf w vn vu vq vg ns us qs gs) (hl : Os w vl l) (hlv : lv < 256) (ht : DTab w) :
    Calls Tryd.prog 4 #[cfv vn vu vq vg, vl, .int .u8 lv] w fun e w' => e = .returned (.bool true) ∧ Below w.heap.size w w' := by
  obtain ⟨ao, cap, rfl, -⟩ := hl.shape
  obtain ⟨vua, vuc, rfl, -⟩ := h.u.shape
  have hbig := hl.len
  have HCf := Lib.hid h
  have HL := Lib.hid hl
  have HT := Lib.hid ht
  have HA := Lib.hid (fun W (hW : Below w.heap.size w W) => awake_any W (ht.below hW))
  have HS := Lib.hid (fun W (hW : Below w.heap.size w W) => small_any vn (.slice vua us.length vuc) vq vg (.slice ao l.length cap) ns us qs gs l W (h.below hW) (hl.below hW))
  have HCB := Lib.hid (Cb.new w vn (.slice vua us.length vuc) vq vg)
  have hb0 : Hid (Below w.heap.size w (w.alloc (.cells #[vn, .slice vua us.length vuc, vq, vg] 27))) := (Below.refl _ _).alloc (Nat.le_refl _) _
  clear h hl ht
  obtain ⟨n, hn⟩ : ∃ n, l.length = n := ⟨_, rfl⟩
  obtain ⟨m, hm⟩ : ∃ m, us.length = m := ⟨_, rfl⟩
  have HN := Lib.hid hn
  have HM := Lib.hid hm
  rw [hn] at HL hbig HS
  rw [hm] at HCf HS HCB hb0
  rw [hn, hm]
  clear hn hm
  go_enter Tryd.func4, Tryd.ntmps4
  go_wp2_with fail
  refine (HA.out _ hb0.out).mono ?_
  rintro e w1 ⟨rfl, hx⟩
  have HC1 := Lib.hid (HCB.out.later hx)
  have hb1 := Lib.hid (below_next hb0.out hx)
  have st := Lib.hid (HS.out w1 hb1.out)
  have q0 := HC1.out.cell.1
  have q1 := HC1.out.cell.2.1
  have q2 := HC1.out.cell.2.2.1
  have q3 := HC1.out.cell.2.2.2
  clear hx HA HS HCB hb0
  go_wp2_with fail
  refine st.out.mono ?_
  rintro e w2 ⟨bb, rfl, hsm, hx⟩
  have HC2 := Lib.hid (HC1.out.later hx)
  have hb2 := Lib.hid (below_next hb1.out hx)
  clear hx st q0 q1 q2 q3 HC1 hb1
  cases bb with
  | false =>
    clear hsm
    go_wp2_with fail
    go_ret
    exact ⟨rfl, hb2.out⟩
  | true =>
    have HSm := Lib.hid (hsm rfl)
    have HLat := Lib.hid (L.check_iff.1 HSm.out.lat)
    have h120 : n ≤ 120 := by rw [← HN.out]; exact HSm.out.few
    have HFew : Hid (Few l) := fun o ho => Nat.le_trans (HSm.out.keep o ho) (by decide)
    clear hsm
    have hm1 : 1 ≤ m := by rw [← HM.out]; exact HLat.out.some
    have hm12 : m ≤ 12 := by rw [← HM.out]; exact HSm.out.labels
    have hxx : (lv : Int) % (m : Int) = ((lv % m : Nat) : Int) := (Int.natCast_emod lv m).symm
    have hxm : lv % m < m := Nat.mod_lt _ (by omega)
    have hlv0 : (0 : Int) ≤ (lv : Int) := by omega
    have hlv1 : (lv : Int) < 256 := by omega
    have hm0 : (m : Int) ≠ 0 := by omega
    obtain ⟨x, hxd⟩ : ∃ x, lv % m = x := ⟨_, rfl⟩
    rw [hxd] at hxx hxm
    clear hxd
    have st := Lib.hid (sets_any vn (.slice vua m vuc) vq vg (.slice ao n cap) us gs l (x : Int) w2 (HCf.out.below hb2.out).u HCf.out.u64 (HCf.out.below hb2.out).g (HL.out.below hb2.out) (by rw [HN.out]; omega))
    have hdl := L.down_lt us (x : Int)
    obtain ⟨d, hd⟩ : ∃ d, L.down us (x : Int) = d := ⟨_, rfl⟩
    rw [hd] at st hdl
    have HD := Lib.hid hd
    clear hd
    have q0 := HC2.out.cell.1
    have q1 := HC2.out.cell.2.1
    have q2 := HC2.out.cell.2.2.1
    have q3 := HC2.out.cell.2.2.2
    go_wp2_with fail
    refine st.out.mono ?_
    rintro e w3 ⟨vs, rfl, hos, hx⟩
    have HSL : Hid ((L.sets us gs d l).length = n) := by rw [← HN.out]; exact L.sets_length _ _ _ _
    have HV : Hid (Us w3 vs (L.sets us gs d l)) := by
      unfold Hid Us
      rw [HSL.out, ← HN.out]
      exact Sl.of_owns hos
    have HC3 := Lib.hid (HC2.out.later hx)
    have hb3 := Lib.hid (below_next hb2.out hx)
    have HSlt : Hid (∀ j, L.cur us gs d (l.drop j) < 18446744073709551616) := fun j => L.cur_lt hdl _
    have HSA : Hid (∀ i (_ : i < n), (L.sets us gs d l).getD i 0 = L.cur us gs d (l.drop i)) := fun i h => by
      rw [List.getD_eq_getElem?_getD, List.getElem?_eq_getElem (by rw [HSL.out]; exact h), Option.getD_some, L.sets_at]
    obtain ⟨sa, sc, rfl, -⟩ := HV.out.shape
    rw [HSL.out] at HV
    rw [HSL.out]
    clear hos hx st q0 q1 q2 q3 HC2 hb2
    have st := Lib.hid (refDown_any (.slice vua m vuc) us (x : Int) w3 (HCf.out.below hb3.out).u HCf.out.u64)
    rw [HD.out] at st
    have q0 := HC3.out.cell.1
    have q1 := HC3.out.cell.2.1
    have q2 := HC3.out.cell.2.2.1
    have q3 := HC3.out.cell.2.2.2
    go_wp2_with fail
    refine st.out.mono ?_
    rintro e w' ⟨rfl, rfl⟩
    clear st q0 q1 q2 q3
    go_wp2_with fail
    go_loopw [12, 13] (fun fv i wr => ∃ k : Nat, k ≤ n ∧ fv = .bool (L.anyTo us gs d l k) ∧ i = .int .i64 k ∧ Hid (Us wr (.slice sa n sc) (L.sets us gs d l)) ∧ Hid (Cb wr w.heap.size vn (.slice vua m vuc) vq vg) ∧ Hid (Below w.heap.size w wr)) (fun _ i _ => n - (intOf i).toNat)
    case atStart => exact ⟨0, by omega, rfl, rfl, HV, HC3, hb3⟩
    case round =>
      clear HV HC3 hb3
      obtain ⟨k, hk, rfl, rfl, HV, HC, hbr⟩ := hrel
      by_cases hkn : k < n
      · have hkI : (k : Int) < (n : Int) := by omega
        have hk0 : (0 : Int) ≤ (k : Int) := by omega
        obtain ⟨b, off, u, rfl, hks, hat⟩ := HL.out.at (j := k) (by rw [HN.out]; exact hkn)
        obtain ⟨ua, uc, rfl, -⟩ := hks.shape
        generalize (l[k]'(by rw [HN.out]; exact hkn)).keep.length = uq at *
        have HFl : Hid (L.flows gs (l[k]'(by rw [HN.out]; exact hkn)) (L.cur us gs d (l.drop k)) = L.flows gs (l[k]'(by rw [HN.out]; exact hkn)) (L.cur us gs d (l.drop k))) := rfl
        obtain ⟨o, ho⟩ : ∃ o, l[k]'(by rw [HN.out]; exact hkn) = o := ⟨_, rfl⟩
        rw [ho] at hat
        have HAt := Lib.hid hat
        obtain ⟨b9, o9, rfl, -⟩ := HV.out.at (j := k) (by rw [HSL.out]; exact hkn)
        have hslt := HSlt.out k
        have hsa := HSA.out k hkn
        have hsd := (L.cur_has us gs d (l.drop k)).ro
        have hsn := fun j (h : k = j + 1) => (L.cur_next us gs d l j).ro
        obtain ⟨s, hs⟩ : ∃ s, L.cur us gs d (l.drop k) = s := ⟨_, rfl⟩
        rw [hs] at hslt hsa hsd
        have HSAk := Lib.hid hsa
        have HF1 := Lib.hid (fun W (hW : Below w.heap.size w W) => flows_any vn (.slice vua m vuc) vq vg gs o (.slice ua uq uc) s W (HCf.out.below hW).g hslt)
        obtain ⟨fl, hfl⟩ : ∃ fl, L.flows gs o s = fl := ⟨_, rfl⟩
        rw [hfl] at HF1
        replace HFl : Hid (L.flows gs (l[k]'(by rw [HN.out]; exact hkn)) (L.cur us gs d (l.drop k)) = fl) := by unfold Hid; rw [hs, ho]; exact hfl
        obtain ⟨fa, hfa⟩ : ∃ fa, L.anyTo us gs d l k = fa := ⟨_, rfl⟩
        rw [hfa]
        have HAk := Lib.hid hfa
        have hor : bits BinOp.or IntKind.u64 (s : Int) (d : Int) = (s : Int) := by rw [u64_or_nat s d hslt hdl, hsd]
        have hne : ((s : Int) != (s : Int)) = false := by simp
        obtain ⟨o0, o1, o2, o3, o4, o5, o6, o7, o8, o9', k9⟩ := o
        clear ho hat hks hsa hfl hfa hsd
        by_cases hkz : k = 0
        · have dk : decide ((0 : Int) < (k : Int)) = false := by subst hkz; rfl
          have dk2 : decide (0 < k) = false := by subst hkz; rfl
          have HKZ := Lib.hid hkz
          clear hsn hs hkz
          go_wp2_with fail
          refine wp_region_mix ext_grow [(0, false), (1, false), (2, false), (3, false), (4, false), (5, false), (6, false), (7, false), (8, false), (9, false), (10, false), (11, false), (12, false), (13, false), (14, false), (15, false), (16, false), (17, false), (18, false), (19, false), (20, false), (21, false), (22, false), (23, false), (24, false), (25, false), (26, false), (27, false), (28, false), (29, false), (30, false), (31, false), (32, false)] (by kernel_rfl) (by kernel_rfl) ?_
          have HV5 : Hid (Us wr.drew (.slice (some ⟨b9, o9, none⟩) n sc) (L.sets us gs d l)) := HV.out
          have HC5 : Hid (Cb wr.drew w.heap.size vn (.slice vua m vuc) vq vg) := HC.out
          have hb5 : Hid (Below w.heap.size w wr.drew) := hbr.out.drew
          clear HV HC hbr
          generalize wr.drew = w5 at *
          have cs : ∀ z : Later w5, z.1.cell? ⟨b9, o9 + k, none⟩ = some (.int .u64 (s : Int)) := fun z => by
            obtain ⟨b', o', e, hc⟩ := (HV5.out.below z.2).at (j := k) (by rw [HSL.out]; exact hkn)
            obtain ⟨rfl, rfl⟩ : b9 = b' ∧ o9 = o' := by simpa using e
            have := hc k (by rw [HSL.out]; exact hkn)
            rw [HSAk.out] at this
            exact this
          repeat (refine mix_soft rfl (fun K hK => ?_); go_simp; (first | (refine hK _ ?_; clear hK K) | (apply Exists.intro; refine ⟨fun z => ?_, hK _ ?_⟩; (first | done); clear hK K)))
          refine mix_done fun w6 hx => ?_
          have hb6 := Lib.hid (below_next hb5.out hx)
          have HC6 := Lib.hid (HC5.out.later hx)
          have HV6 := Lib.hid (HV5.out.below hx)
          clear hx hb5 HC5 HV5 cs
          cases fa with
          | false =>
            go_wp2_with fail
            refine wp_region_mix ext_grow [(0, false), (1, false), (2, false), (3, false), (4, false), (5, false), (6, false), (7, false), (8, false), (9, false), (10, false), (11, false), (12, false), (13, false)] (by kernel_rfl) (by kernel_rfl) ?_
            have HV7 : Hid (Us w6.drew (.slice (some ⟨b9, o9, none⟩) n sc) (L.sets us gs d l)) := HV6.out
            have HC7 : Hid (Cb w6.drew w.heap.size vn (.slice vua m vuc) vq vg) := HC6.out
            have hb7 : Hid (Below w.heap.size w w6.drew) := hb6.out.drew
            clear HV6 HC6 hb6
            generalize w6.drew = w6 at *
            have HC5 := HC7
            have c0 : ∀ z : Later w6, z.1.cell? ⟨w.heap.size, 0, none⟩ = some vn := fun z => (HC5.out.later z.2).cell.1
            have c1 : ∀ z : Later w6, z.1.cell? ⟨w.heap.size, 1, none⟩ = some (.slice vua m vuc) := fun z => (HC5.out.later z.2).cell.2.1
            have c2 : ∀ z : Later w6, z.1.cell? ⟨w.heap.size, 2, none⟩ = some vq := fun z => (HC5.out.later z.2).cell.2.2.1
            have c3 : ∀ z : Later w6, z.1.cell? ⟨w.heap.size, 3, none⟩ = some vg := fun z => (HC5.out.later z.2).cell.2.2.2
            have hbx : ∀ z : Later w6, Below w.heap.size w z.1 := fun z => below_next hb7.out z.2
            have cs : ∀ z : Later w6, z.1.cell? ⟨b9, o9 + k, none⟩ = some (.int .u64 (s : Int)) := fun z => by
              obtain ⟨b', o', e, hc⟩ := (HV7.out.below z.2).at (j := k) (by rw [HSL.out]; exact hkn)
              obtain ⟨rfl, rfl⟩ : b9 = b' ∧ o9 = o' := by simpa using e
              have := hc k (by rw [HSL.out]; exact hkn)
              rw [HSAk.out] at this
              exact this
            have p0 : ∀ z : Later w6, z.1.cell? ⟨b, off + k * 11, none⟩ = some (.int .i64 o0) := fun z => (HAt.out z.1 (hbx z)).c0
            have p1 : ∀ z : Later w6, z.1.cell? ⟨b, off + k * 11 + 1, none⟩ = some (.int .i64 o1) := fun z => (HAt.out z.1 (hbx z)).c1
            have p2 : ∀ z : Later w6, z.1.cell? ⟨b, off + k * 11 + 2, none⟩ = some (.int .i64 o2) := fun z => (HAt.out z.1 (hbx z)).c2
            have p3 : ∀ z : Later w6, z.1.cell? ⟨b, off + k * 11 + 3, none⟩ = some (.int .i64 o3) := fun z => (HAt.out z.1 (hbx z)).c3
            have p4 : ∀ z : Later w6, z.1.cell? ⟨b, off + k * 11 + 4, none⟩ = some (.string (str o4)) := fun z => (HAt.out z.1 (hbx z)).c4
            have p5 : ∀ z : Later w6, z.1.cell? ⟨b, off + k * 11 + 5, none⟩ = some (.string (str o5)) := fun z => (HAt.out z.1 (hbx z)).c5
            have p6 : ∀ z : Later w6, z.1.cell? ⟨b, off + k * 11 + 6, none⟩ = some (.string (str o6)) := fun z => (HAt.out z.1 (hbx z)).c6
            have p7 : ∀ z : Later w6, z.1.cell? ⟨b, off + k * 11 + 7, none⟩ = some (.int .i64 o7) := fun z => (HAt.out z.1 (hbx z)).c7
            have p8 : ∀ z : Later w6, z.1.cell? ⟨b, off + k * 11 + 8, none⟩ = some (.int .i64 o8) := fun z => (HAt.out z.1 (hbx z)).c8
            have p9 : ∀ z : Later w6, z.1.cell? ⟨b, off + k * 11 + 9, none⟩ = some (.int .i64 o9') := fun z => (HAt.out z.1 (hbx z)).c9
            have p10 : ∀ z : Later w6, z.1.cell? ⟨b, off + k * 11 + 10, none⟩ = some (.slice ua uq uc) := fun z => (HAt.out z.1 (hbx z)).c10
            have HFy : Hid (∀ z : Later w6, Calls Tryd.prog 9 #[.agg #[vn, (.slice vua m vuc), vq, vg], .agg #[.int .i64 o0, .int .i64 o1, .int .i64 o2, .int .i64 o3, .string (str o4), .string (str o5), .string (str o6), .int .i64 o7, .int .i64 o8, .int .i64 o9', .slice ua uq uc], .int .u64 s] z.1 fun e w' => e = .returned (.bool fl) ∧ Ext z.1 w') := fun z => HF1.out z.1 (hbx z)
            have HBX := Lib.hid hbx
            clear hbx HF1
            repeat (refine mix_soft rfl (fun K hK => ?_); go_simp; (first | (refine hK _ ?_; clear hK K) | (apply Exists.intro; refine ⟨fun z => ?_, hK _ ?_⟩; (first | (go_at_call 9; with_reducible exact HFy.out z)); clear hK K)))
            refine mix_done fun w8 hx => ?_
            have hb8 : Hid (Below w.heap.size w w8) := HBX.out ⟨w8, hx⟩
            have HC8 := Lib.hid (HC7.out.later hx)
            have HV8 := Lib.hid (HV7.out.below hx)
            clear hx HBX hb7 HC5 HC7 HV7 c0 c1 c2 c3 cs p0 p1 p2 p3 p4 p5 p6 p7 p8 p9 p10 HFy
            go_wp2_with fail
            go_roundw
            case rel => exact ⟨k + 1, by omega, by rw [L.anyTo_succ (by rw [HN.out]; exact hkn), HAk.out, HFl.out]; rfl, by go_num, HV8, HC8, hb8⟩
            case measure => simp [intOf]; omega
          | true =>
            go_wp2_with fail
            refine wp_region_mix ext_grow [(0, false), (1, false), (2, false), (3, false), (4, false), (5, false), (6, false), (7, false), (8, false), (9, false), (10, false), (11, false), (12, false), (13, false)] (by kernel_rfl) (by kernel_rfl) ?_
            have HV7 : Hid (Us w6.drew (.slice (some ⟨b9, o9, none⟩) n sc) (L.sets us gs d l)) := HV6.out
            have HC7 : Hid (Cb w6.drew w.heap.size vn (.slice vua m vuc) vq vg) := HC6.out
            have hb7 : Hid (Below w.heap.size w w6.drew) := hb6.out.drew
            clear HV6 HC6 hb6
            generalize w6.drew = w6 at *
            have HC5 := HC7
            have c0 : ∀ z : Later w6, z.1.cell? ⟨w.heap.size, 0, none⟩ = some vn := fun z => (HC5.out.later z.2).cell.1
            have c1 : ∀ z : Later w6, z.1.cell? ⟨w.heap.size, 1, none⟩ = some (.slice vua m vuc) := fun z => (HC5.out.later z.2).cell.2.1
            have c2 : ∀ z : Later w6, z.1.cell? ⟨w.heap.size, 2, none⟩ = some vq := fun z => (HC5.out.later z.2).cell.2.2.1
            have c3 : ∀ z : Later w6, z.1.cell? ⟨w.heap.size, 3, none⟩ = some vg := fun z => (HC5.out.later z.2).cell.2.2.2
            have hbx : ∀ z : Later w6, Below w.heap.size w z.1 := fun z => below_next hb7.out z.2
            have cs : ∀ z : Later w6, z.1.cell? ⟨b9, o9 + k, none⟩ = some (.int .u64 (s : Int)) := fun z => by
              obtain ⟨b', o', e, hc⟩ := (HV7.out.below z.2).at (j := k) (by rw [HSL.out]; exact hkn)
              obtain ⟨rfl, rfl⟩ : b9 = b' ∧ o9 = o' := by simpa using e
              have := hc k (by rw [HSL.out]; exact hkn)
              rw [HSAk.out] at this
              exact this
            have p0 : ∀ z : Later w6, z.1.cell? ⟨b, off + k * 11, none⟩ = some (.int .i64 o0) := fun z => (HAt.out z.1 (hbx z)).c0
            have p1 : ∀ z : Later w6, z.1.cell? ⟨b, off + k * 11 + 1, none⟩ = some (.int .i64 o1) := fun z => (HAt.out z.1 (hbx z)).c1
            have p2 : ∀ z : Later w6, z.1.cell? ⟨b, off + k * 11 + 2, none⟩ = some (.int .i64 o2) := fun z => (HAt.out z.1 (hbx z)).c2
            have p3 : ∀ z : Later w6, z.1.cell? ⟨b, off + k * 11 + 3, none⟩ = some (.int .i64 o3) := fun z => (HAt.out z.1 (hbx z)).c3
            have p4 : ∀ z : Later w6, z.1.cell? ⟨b, off + k * 11 + 4, none⟩ = some (.string (str o4)) := fun z => (HAt.out z.1 (hbx z)).c4
            have p5 : ∀ z : Later w6, z.1.cell? ⟨b, off + k * 11 + 5, none⟩ = some (.string (str o5)) := fun z => (HAt.out z.1 (hbx z)).c5
            have p6 : ∀ z : Later w6, z.1.cell? ⟨b, off + k * 11 + 6, none⟩ = some (.string (str o6)) := fun z => (HAt.out z.1 (hbx z)).c6
            have p7 : ∀ z : Later w6, z.1.cell? ⟨b, off + k * 11 + 7, none⟩ = some (.int .i64 o7) := fun z => (HAt.out z.1 (hbx z)).c7
            have p8 : ∀ z : Later w6, z.1.cell? ⟨b, off + k * 11 + 8, none⟩ = some (.int .i64 o8) := fun z => (HAt.out z.1 (hbx z)).c8
            have p9 : ∀ z : Later w6, z.1.cell? ⟨b, off + k * 11 + 9, none⟩ = some (.int .i64 o9') := fun z => (HAt.out z.1 (hbx z)).c9
            have p10 : ∀ z : Later w6, z.1.cell? ⟨b, off + k * 11 + 10, none⟩ = some (.slice ua uq uc) := fun z => (HAt.out z.1 (hbx z)).c10
            have HFy : Hid (∀ z : Later w6, Calls Tryd.prog 9 #[.agg #[vn, (.slice vua m vuc), vq, vg], .agg #[.int .i64 o0, .int .i64 o1, .int .i64 o2, .int .i64 o3, .string (str o4), .string (str o5), .string (str o6), .int .i64 o7, .int .i64 o8, .int .i64 o9', .slice ua uq uc], .int .u64 s] z.1 fun e w' => e = .returned (.bool fl) ∧ Ext z.1 w') := fun z => HF1.out z.1 (hbx z)
            have HBX := Lib.hid hbx
            clear hbx HF1
            repeat (refine mix_soft rfl (fun K hK => ?_); go_simp; (first | (refine hK _ ?_; clear hK K) | (apply Exists.intro; refine ⟨fun z => ?_, hK _ ?_⟩; (first | (go_at_call 9; with_reducible exact HFy.out z)); clear hK K)))
            refine mix_done fun w8 hx => ?_
            have hb8 : Hid (Below w.heap.size w w8) := HBX.out ⟨w8, hx⟩
            have HC8 := Lib.hid (HC7.out.later hx)
            have HV8 := Lib.hid (HV7.out.below hx)
            clear hx HBX hb7 HC5 HC7 HV7 c0 c1 c2 c3 cs p0 p1 p2 p3 p4 p5 p6 p7 p8 p9 p10 HFy
            go_wp2_with fail
            go_roundw
            case rel => exact ⟨k + 1, by omega, by rw [L.anyTo_succ (by rw [HN.out]; exact hkn), HAk.out, HFl.out]; rfl, by go_num, HV8, HC8, hb8⟩
            case measure => simp [intOf]; omega
        · obtain ⟨j, hkj⟩ : ∃ j, k = j + 1 := ⟨k - 1, by omega⟩
          have hsp := HSlt.out j
          have hsaj := HSA.out j (by omega)
          have hsn' := hsn j hkj
          rw [← hkj, hs] at hsn'
          obtain ⟨sp, hsp'⟩ : ∃ s, L.cur us gs d (l.drop j) = s := ⟨_, rfl⟩
          rw [hsp'] at hsp hsaj hsn'
          have HSAj := Lib.hid hsaj
          have hor2 : bits BinOp.or IntKind.u64 (sp : Int) (s : Int) = (sp : Int) := by rw [u64_or_nat sp s hsp hslt, hsn']
          have hne2 : ((sp : Int) != (sp : Int)) = false := by simp
          have hwj : IntKind.i64.wrap ((k : Int) - 1) = (j : Int) := by rw [show (k : Int) - 1 = (j : Int) by omega]; rw [IntKind.wrap_i64]; omega
          have hj0 : (0 : Int) ≤ (j : Int) := by omega
          have hjn : (j : Int) < (n : Int) := by omega
          have hjx : j < n := by omega
          have dk : decide ((0 : Int) < (k : Int)) = true := by simp; omega
          have dk2 : decide (0 < k) = true := by simp; omega
          clear hsn hs hsp' hsaj hsn' hkz hkj
          go_wp2_with fail
          refine wp_region_mix ext_grow [(0, false), (1, false), (2, false), (3, false), (4, false), (5, false), (6, false), (7, false), (8, false), (9, false), (10, false), (11, false), (12, false), (13, false), (14, false), (15, false), (16, false), (17, false), (18, false), (19, false), (20, false), (21, false), (22, false), (23, false), (24, false), (25, false), (26, false), (27, false), (28, false), (29, false), (30, false), (31, false), (32, false)] (by kernel_rfl) (by kernel_rfl) ?_
          have HV5 : Hid (Us wr.drew (.slice (some ⟨b9, o9, none⟩) n sc) (L.sets us gs d l)) := HV.out
          have HC5 : Hid (Cb wr.drew w.heap.size vn (.slice vua m vuc) vq vg) := HC.out
          have hb5 : Hid (Below w.heap.size w wr.drew) := hbr.out.drew
          clear HV HC hbr
          generalize wr.drew = w5 at *
          have cs : ∀ z : Later w5, z.1.cell? ⟨b9, o9 + k, none⟩ = some (.int .u64 (s : Int)) := fun z => by
            obtain ⟨b', o', e, hc⟩ := (HV5.out.below z.2).at (j := k) (by rw [HSL.out]; exact hkn)
            obtain ⟨rfl, rfl⟩ : b9 = b' ∧ o9 = o' := by simpa using e
            have := hc k (by rw [HSL.out]; exact hkn)
            rw [HSAk.out] at this
            exact this
          have cp : ∀ z : Later w5, z.1.cell? ⟨b9, o9 + j, none⟩ = some (.int .u64 (sp : Int)) := fun z => by
            obtain ⟨b', o', e, hc⟩ := (HV5.out.below z.2).at (j := j) (by rw [HSL.out]; exact hjx)
            obtain ⟨rfl, rfl⟩ : b9 = b' ∧ o9 = o' := by simpa using e
            have := hc j (by rw [HSL.out]; exact hjx)
            rw [HSAj.out] at this
            exact this
          repeat (refine mix_soft rfl (fun K hK => ?_); go_simp; (first | (refine hK _ ?_; clear hK K) | (apply Exists.intro; refine ⟨fun z => ?_, hK _ ?_⟩; (first | done); clear hK K)))
          refine mix_done fun w6 hx => ?_
          have hb6 := Lib.hid (below_next hb5.out hx)
          have HC6 := Lib.hid (HC5.out.later hx)
          have HV6 := Lib.hid (HV5.out.below hx)
          clear hx hb5 HC5 HV5 cs cp
          cases fa with
          | false =>
            go_wp2_with fail
            refine wp_region_mix ext_grow [(0, false), (1, false), (2, false), (3, false), (4, false), (5, false), (6, false), (7, false), (8, false), (9, false), (10, false), (11, false), (12, false), (13, false)] (by kernel_rfl) (by kernel_rfl) ?_
            have HV7 : Hid (Us w6.drew (.slice (some ⟨b9, o9, none⟩) n sc) (L.sets us gs d l)) := HV6.out
            have HC7 : Hid (Cb w6.drew w.heap.size vn (.slice vua m vuc) vq vg) := HC6.out
            have hb7 : Hid (Below w.heap.size w w6.drew) := hb6.out.drew
            clear HV6 HC6 hb6
            generalize w6.drew = w6 at *
            have HC5 := HC7
            have c0 : ∀ z : Later w6, z.1.cell? ⟨w.heap.size, 0, none⟩ = some vn := fun z => (HC5.out.later z.2).cell.1
            have c1 : ∀ z : Later w6, z.1.cell? ⟨w.heap.size, 1, none⟩ = some (.slice vua m vuc) := fun z => (HC5.out.later z.2).cell.2.1
            have c2 : ∀ z : Later w6, z.1.cell? ⟨w.heap.size, 2, none⟩ = some vq := fun z => (HC5.out.later z.2).cell.2.2.1
            have c3 : ∀ z : Later w6, z.1.cell? ⟨w.heap.size, 3, none⟩ = some vg := fun z => (HC5.out.later z.2).cell.2.2.2
            have hbx : ∀ z : Later w6, Below w.heap.size w z.1 := fun z => below_next hb7.out z.2
            have cs : ∀ z : Later w6, z.1.cell? ⟨b9, o9 + k, none⟩ = some (.int .u64 (s : Int)) := fun z => by
              obtain ⟨b', o', e, hc⟩ := (HV7.out.below z.2).at (j := k) (by rw [HSL.out]; exact hkn)
              obtain ⟨rfl, rfl⟩ : b9 = b' ∧ o9 = o' := by simpa using e
              have := hc k (by rw [HSL.out]; exact hkn)
              rw [HSAk.out] at this
              exact this
            have p0 : ∀ z : Later w6, z.1.cell? ⟨b, off + k * 11, none⟩ = some (.int .i64 o0) := fun z => (HAt.out z.1 (hbx z)).c0
            have p1 : ∀ z : Later w6, z.1.cell? ⟨b, off + k * 11 + 1, none⟩ = some (.int .i64 o1) := fun z => (HAt.out z.1 (hbx z)).c1
            have p2 : ∀ z : Later w6, z.1.cell? ⟨b, off + k * 11 + 2, none⟩ = some (.int .i64 o2) := fun z => (HAt.out z.1 (hbx z)).c2
            have p3 : ∀ z : Later w6, z.1.cell? ⟨b, off + k * 11 + 3, none⟩ = some (.int .i64 o3) := fun z => (HAt.out z.1 (hbx z)).c3
            have p4 : ∀ z : Later w6, z.1.cell? ⟨b, off + k * 11 + 4, none⟩ = some (.string (str o4)) := fun z => (HAt.out z.1 (hbx z)).c4
            have p5 : ∀ z : Later w6, z.1.cell? ⟨b, off + k * 11 + 5, none⟩ = some (.string (str o5)) := fun z => (HAt.out z.1 (hbx z)).c5
            have p6 : ∀ z : Later w6, z.1.cell? ⟨b, off + k * 11 + 6, none⟩ = some (.string (str o6)) := fun z => (HAt.out z.1 (hbx z)).c6
            have p7 : ∀ z : Later w6, z.1.cell? ⟨b, off + k * 11 + 7, none⟩ = some (.int .i64 o7) := fun z => (HAt.out z.1 (hbx z)).c7
            have p8 : ∀ z : Later w6, z.1.cell? ⟨b, off + k * 11 + 8, none⟩ = some (.int .i64 o8) := fun z => (HAt.out z.1 (hbx z)).c8
            have p9 : ∀ z : Later w6, z.1.cell? ⟨b, off + k * 11 + 9, none⟩ = some (.int .i64 o9') := fun z => (HAt.out z.1 (hbx z)).c9
            have p10 : ∀ z : Later w6, z.1.cell? ⟨b, off + k * 11 + 10, none⟩ = some (.slice ua uq uc) := fun z => (HAt.out z.1 (hbx z)).c10
            have HFy : Hid (∀ z : Later w6, Calls Tryd.prog 9 #[.agg #[vn, (.slice vua m vuc), vq, vg], .agg #[.int .i64 o0, .int .i64 o1, .int .i64 o2, .int .i64 o3, .string (str o4), .string (str o5), .string (str o6), .int .i64 o7, .int .i64 o8, .int .i64 o9', .slice ua uq uc], .int .u64 s] z.1 fun e w' => e = .returned (.bool fl) ∧ Ext z.1 w') := fun z => HF1.out z.1 (hbx z)
            have HBX := Lib.hid hbx
            clear hbx HF1
            repeat (refine mix_soft rfl (fun K hK => ?_); go_simp; (first | (refine hK _ ?_; clear hK K) | (apply Exists.intro; refine ⟨fun z => ?_, hK _ ?_⟩; (first | (go_at_call 9; with_reducible exact HFy.out z)); clear hK K)))
            refine mix_done fun w8 hx => ?_
            have hb8 : Hid (Below w.heap.size w w8) := HBX.out ⟨w8, hx⟩
            have HC8 := Lib.hid (HC7.out.later hx)
            have HV8 := Lib.hid (HV7.out.below hx)
            clear hx HBX hb7 HC5 HC7 HV7 c0 c1 c2 c3 cs p0 p1 p2 p3 p4 p5 p6 p7 p8 p9 p10 HFy
            go_wp2_with fail
            go_roundw
            case rel => exact ⟨k + 1, by omega, by rw [L.anyTo_succ (by rw [HN.out]; exact hkn), HAk.out, HFl.out]; rfl, by go_num, HV8, HC8, hb8⟩
            case measure => simp [intOf]; omega
          | true =>
            go_wp2_with fail
            refine wp_region_mix ext_grow [(0, false), (1, false), (2, false), (3, false), (4, false), (5, false), (6, false), (7, false), (8, false), (9, false), (10, false), (11, false), (12, false), (13, false)] (by kernel_rfl) (by kernel_rfl) ?_
            have HV7 : Hid (Us w6.drew (.slice (some ⟨b9, o9, none⟩) n sc) (L.sets us gs d l)) := HV6.out
            have HC7 : Hid (Cb w6.drew w.heap.size vn (.slice vua m vuc) vq vg) := HC6.out
            have hb7 : Hid (Below w.heap.size w w6.drew) := hb6.out.drew
            clear HV6 HC6 hb6
            generalize w6.drew = w6 at *
            have HC5 := HC7
            have c0 : ∀ z : Later w6, z.1.cell? ⟨w.heap.size, 0, none⟩ = some vn := fun z => (HC5.out.later z.2).cell.1
            have c1 : ∀ z : Later w6, z.1.cell? ⟨w.heap.size, 1, none⟩ = some (.slice vua m vuc) := fun z => (HC5.out.later z.2).cell.2.1
            have c2 : ∀ z : Later w6, z.1.cell? ⟨w.heap.size, 2, none⟩ = some vq := fun z => (HC5.out.later z.2).cell.2.2.1
            have c3 : ∀ z : Later w6, z.1.cell? ⟨w.heap.size, 3, none⟩ = some vg := fun z => (HC5.out.later z.2).cell.2.2.2
            have hbx : ∀ z : Later w6, Below w.heap.size w z.1 := fun z => below_next hb7.out z.2
            have cs : ∀ z : Later w6, z.1.cell? ⟨b9, o9 + k, none⟩ = some (.int .u64 (s : Int)) := fun z => by
              obtain ⟨b', o', e, hc⟩ := (HV7.out.below z.2).at (j := k) (by rw [HSL.out]; exact hkn)
              obtain ⟨rfl, rfl⟩ : b9 = b' ∧ o9 = o' := by simpa using e
              have := hc k (by rw [HSL.out]; exact hkn)
              rw [HSAk.out] at this
              exact this
            have p0 : ∀ z : Later w6, z.1.cell? ⟨b, off + k * 11, none⟩ = some (.int .i64 o0) := fun z => (HAt.out z.1 (hbx z)).c0
            have p1 : ∀ z : Later w6, z.1.cell? ⟨b, off + k * 11 + 1, none⟩ = some (.int .i64 o1) := fun z => (HAt.out z.1 (hbx z)).c1
            have p2 : ∀ z : Later w6, z.1.cell? ⟨b, off + k * 11 + 2, none⟩ = some (.int .i64 o2) := fun z => (HAt.out z.1 (hbx z)).c2
            have p3 : ∀ z : Later w6, z.1.cell? ⟨b, off + k * 11 + 3, none⟩ = some (.int .i64 o3) := fun z => (HAt.out z.1 (hbx z)).c3
            have p4 : ∀ z : Later w6, z.1.cell? ⟨b, off + k * 11 + 4, none⟩ = some (.string (str o4)) := fun z => (HAt.out z.1 (hbx z)).c4
            have p5 : ∀ z : Later w6, z.1.cell? ⟨b, off + k * 11 + 5, none⟩ = some (.string (str o5)) := fun z => (HAt.out z.1 (hbx z)).c5
            have p6 : ∀ z : Later w6, z.1.cell? ⟨b, off + k * 11 + 6, none⟩ = some (.string (str o6)) := fun z => (HAt.out z.1 (hbx z)).c6
            have p7 : ∀ z : Later w6, z.1.cell? ⟨b, off + k * 11 + 7, none⟩ = some (.int .i64 o7) := fun z => (HAt.out z.1 (hbx z)).c7
            have p8 : ∀ z : Later w6, z.1.cell? ⟨b, off + k * 11 + 8, none⟩ = some (.int .i64 o8) := fun z => (HAt.out z.1 (hbx z)).c8
            have p9 : ∀ z : Later w6, z.1.cell? ⟨b, off + k * 11 + 9, none⟩ = some (.int .i64 o9') := fun z => (HAt.out z.1 (hbx z)).c9
            have p10 : ∀ z : Later w6, z.1.cell? ⟨b, off + k * 11 + 10, none⟩ = some (.slice ua uq uc) := fun z => (HAt.out z.1 (hbx z)).c10
            have HFy : Hid (∀ z : Later w6, Calls Tryd.prog 9 #[.agg #[vn, (.slice vua m vuc), vq, vg], .agg #[.int .i64 o0, .int .i64 o1, .int .i64 o2, .int .i64 o3, .string (str o4), .string (str o5), .string (str o6), .int .i64 o7, .int .i64 o8, .int .i64 o9', .slice ua uq uc], .int .u64 s] z.1 fun e w' => e = .returned (.bool fl) ∧ Ext z.1 w') := fun z => HF1.out z.1 (hbx z)
            have HBX := Lib.hid hbx
            clear hbx HF1
            repeat (refine mix_soft rfl (fun K hK => ?_); go_simp; (first | (refine hK _ ?_; clear hK K) | (apply Exists.intro; refine ⟨fun z => ?_, hK _ ?_⟩; (first | (go_at_call 9; with_reducible exact HFy.out z)); clear hK K)))
            refine mix_done fun w8 hx => ?_
            have hb8 : Hid (Below w.heap.size w w8) := HBX.out ⟨w8, hx⟩
            have HC8 := Lib.hid (HC7.out.later hx)
            have HV8 := Lib.hid (HV7.out.below hx)
            clear hx HBX hb7 HC5 HC7 HV7 c0 c1 c2 c3 cs p0 p1 p2 p3 p4 p5 p6 p7 p8 p9 p10 HFy
            go_wp2_with fail
            go_roundw
            case rel => exact ⟨k + 1, by omega, by rw [L.anyTo_succ (by rw [HN.out]; exact hkn), HAk.out, HFl.out]; rfl, by go_num, HV8, HC8, hb8⟩
            case measure => simp [intOf]; omega
      · have hkI : ¬ ((k : Int) < (n : Int)) := by omega
        obtain rfl : n = k := by omega
        clear HSA HSlt
        have st := Lib.hid (purge_any vn (.slice vua m vuc) vq vg (.slice ao n cap) us gs l (x : Int) wr (HCf.out.below hbr.out).u HCf.out.u64 (HCf.out.below hbr.out).g (HL.out.below hbr.out) (by rw [HN.out]; omega) HFew.out (HT.out.below hbr.out))
        rw [HD.out] at st
        have q0 := HC.out.cell.1
        have q1 := HC.out.cell.2.1
        have q2 := HC.out.cell.2.2.1
        have q3 := HC.out.cell.2.2.2
        go_wp2_with fail
        refine st.out.mono ?_
        rintro e w6 ⟨v6, ws6, rfl, hob, hx⟩
        have HO6 := Lib.hid (hob.os hx)
        have HC6 := Lib.hid (HC.out.later hx)
        have HV6 := Lib.hid (HV.out.below hx)
        have hb6 := Lib.hid (below_next hbr.out hx)
        clear hob hx st q0 q1 q2 q3 HC HV hbr
        obtain ⟨p, hp⟩ : ∃ p, L.purges us gs d l = p := ⟨_, rfl⟩
        have hpl : p.length ≤ n := by rw [← hp, ← HN.out]; exact L.purgeTo_length _ _ _ _ _
        have HPF : Hid (Few p) := by rw [← hp]; exact L.purges_few l HFew.out
        have HPA : Hid (L.purges us gs d p = p) := by rw [← hp]; exact (L.purges_again HLat.out HSm.out.grants l).2
        rw [hp] at HO6
        have HP := Lib.hid hp
        clear hp
        obtain ⟨pa, pc, rfl, -⟩ := HO6.out.shape
        have st := Lib.hid (purge_any vn (.slice vua m vuc) vq vg (.slice pa p.length pc) us gs p (x : Int) w6 (HCf.out.below hb6.out).u HCf.out.u64 (HCf.out.below hb6.out).g HO6.out (by omega) HPF.out (HT.out.below hb6.out))
        rw [HD.out, HPA.out] at st
        have q0 := HC6.out.cell.1
        have q1 := HC6.out.cell.2.1
        have q2 := HC6.out.cell.2.2.1
        have q3 := HC6.out.cell.2.2.2
        go_wp2_with fail
        refine st.out.mono ?_
        rintro e w7 ⟨v7, ws7, rfl, hob, hx⟩
        have HO7 := Lib.hid (hob.os hx)
        have HO67 := Lib.hid (HO6.out.below hx)
        have HC7 := Lib.hid (HC6.out.later hx)
        have HV7 := Lib.hid (HV6.out.below hx)
        have hb7 := Lib.hid (below_next hb6.out hx)
        clear hob hx st q0 q1 q2 q3 HC6 HV6 hb6 HO6
        obtain ⟨pa7, pc7, rfl, -⟩ := HO7.out.shape
        have st : Hid (Calls Tryd.prog 13 #[.slice pa7 p.length pc7, .slice pa p.length pc] w7 fun e w' => e = .returned (.bool true) ∧ Below w7.heap.size w7 w') := (refAll_any _ _ p p w7 HO7.out HO67.out).mono fun e w' ⟨b, h1, h2, h3⟩ => ⟨by rw [h1, h2.2 rfl], h3⟩
        go_wp2_with fail
        refine st.out.mono ?_
        rintro e w8 ⟨rfl, hx⟩
        have HO8 := Lib.hid (HO67.out.below hx)
        have HC8 := Lib.hid (HC7.out.later hx)
        have hb8 := Lib.hid (below_next hb7.out hx)
        clear hx st HO7 HO67 HC7 HV7 hb7
        obtain ⟨fa, hfa⟩ : ∃ fa, L.anyTo us gs d l n = fa := ⟨_, rfl⟩
        rw [hfa]
        cases fa with
        | true =>
          clear hfa
          go_wp2_with fail
          go_ret
          exact ⟨rfl, hb8.out⟩
        | false =>
          have HPB : Hid (l.flatMap (L.pick fun a => L.leq us a (x : Int)) = p) := by
            unfold Hid
            rw [← HP.out, ← HD.out]
            refine ((L.purges_still l fun i h => ?_).2).symm
            rw [HD.out]
            exact L.anyTo_none hfa i (by rw [← HN.out]; exact h) h
          clear hfa
          have st := Lib.hid (refBelow_any (.slice vua m vuc) (.slice ao n cap) us l (x : Int) w8 (HCf.out.below hb8.out).u HCf.out.u64 (HL.out.below hb8.out) (by rw [HN.out]; omega) HFew.out)
          rw [HPB.out] at st
          have q0 := HC8.out.cell.1
          have q1 := HC8.out.cell.2.1
          have q2 := HC8.out.cell.2.2.1
          have q3 := HC8.out.cell.2.2.2
          go_wp2_with fail
          refine st.out.mono ?_
          rintro e w9 ⟨v9, ws9, rfl, hob, hx⟩
          have HO9 := Lib.hid (hob.os hx)
          have HO89 := Lib.hid (HO8.out.below hx)
          have hb9 := Lib.hid (below_next hb8.out hx)
          clear hob hx st q0 q1 q2 q3 HC8 hb8 HO8
          obtain ⟨pa9, pc9, rfl, -⟩ := HO9.out.shape
          have st : Hid (Calls Tryd.prog 13 #[.slice pa p.length pc, .slice pa9 p.length pc9] w9 fun e w' => e = .returned (.bool true) ∧ Below w9.heap.size w9 w') := (refAll_any _ _ p p w9 HO89.out HO9.out).mono fun e w' ⟨b, h1, h2, h3⟩ => ⟨by rw [h1, h2.2 rfl], h3⟩
          go_wp2_with fail
          refine st.out.mono ?_
          rintro e w10 ⟨rfl, hx⟩
          have hfin := Lib.hid (below_next hb9.out hx)
          clear hx st hb9
          go_wp2_with fail
          go_ret
          exact ⟨rfl, hfin.out⟩
end Go.Proofs.YtljpfocmnppjgaaDoor
