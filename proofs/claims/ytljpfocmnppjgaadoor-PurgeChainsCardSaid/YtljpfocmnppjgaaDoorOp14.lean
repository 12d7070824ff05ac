/- What the reference's Check of a configuration, and small return. -/
import Derived.Test.YtljpfocmnppjgaaDoorOp13
import Derived.Test.YtljpfocmnppjgaaDoorOp9
import Derived.Test.YtljpfocmnppjgaaDoorRefCheck
import Derived.Test.YtljpfocmnppjgaaDoorGr5
namespace Go.Proofs.YtljpfocmnppjgaaDoor
open Go Go.RowKit

/-- A configuration's four slices. -/
structure Cf (w : World) (vn vu vq vg : Value) (ns : List (List UInt8)) (us : List Nat) (qs : List Int) (gs : List Gr) : Prop where
  n : Ks w vn ns
  u : Us w vu us
  u64 : U64s us
  q : Zs w vq qs
  g : Gs w vg gs
theorem Cf.below {w w' : World} {vn vu vq vg : Value} {ns : List (List UInt8)} {us : List Nat} {qs : List Int} {gs : List Gr} (h : Cf w vn vu vq vg ns us qs gs) (hb : Below w.heap.size w w') : Cf w' vn vu vq vg ns us qs gs :=
  ⟨h.n.below hb, h.u.below hb, h.u64, Sl.below h.q hb, Three.Ss.below h.g hb⟩
theorem Ks.take {w : World} {ao : Option Addr} {n cap : Nat} {l : List (List UInt8)} (h : Ks w (.slice ao n cap) l) (hn : l.length = n) (k : Nat) (hk : k ≤ n) : ∃ v', Ks w v' (l.take k) ∧ ∀ W, (Instr.slice 22 (.slice ao n cap) none (some (.int .i64 k)) none).run Tryd.prog W = .ok v' W := by
  have h' : Sl w 1 n (.slice ao n cap) (strCells l) := by unfold Ks at h; rw [hn] at h; exact h
  obtain ⟨v', h1, h2⟩ := run_take (P := Tryd.prog) (t := 22) Tryd.underlying22 infoStr h' .i64 k hk
  refine ⟨v', ?_, h2⟩
  unfold Ks
  rw [List.length_take, hn, Nat.min_eq_left hk]
  rw [Nat.mul_one] at h1
  simpa [strCells, List.map_take] using h1

set_option maxRecDepth 4000 in
set_option maxHeartbeats 8000000 in
theorem check5_any (vn vu vq vg : Value) (ns : List (List UInt8)) (us : List Nat) (qs : List Int) (gs : List Gr) (w : World) (h : Cf w vn vu vq vg ns us qs gs) :
    Calls Tryd.prog 20 #[cfv vn vu vq vg] w fun e w' => ∃ b, e = .returned (.bool b) ∧ (b = true → L.check us = true ∧ L.gcheck us gs = true) ∧ Below w.heap.size w w' := by
  obtain ⟨an, cn, rfl, -⟩ := h.n.shape
  obtain ⟨au, cu, rfl, -⟩ := h.u.shape
  obtain ⟨aq, cq, rfl, -⟩ := Sl.shape h.q
  have hbig := h.n.len
  have HC := Lib.hid (fun W (hW : Below w.heap.size w W) => refCheck_any _ us W (h.below hW).u h.u64)
  have HG := Lib.hid (fun W (hW : Below w.heap.size w W) => refGcheck_any _ us vg gs W (h.below hW).u h.u64 (h.below hW).g)
  have HCf := Lib.hid h
  have HB := Lib.hid (Cb.new w (.slice an ns.length cn) (.slice au us.length cu) (.slice aq qs.length cq) vg)
  have hb1 : Hid (Below w.heap.size w (w.alloc (.cells #[.slice an ns.length cn, .slice au us.length cu, .slice aq qs.length cq, vg] 27))) := (Below.refl _ _).alloc (Nat.le_refl _) _
  obtain ⟨n, hn⟩ : ∃ n, ns.length = n := ⟨_, rfl⟩
  obtain ⟨n2, hn2⟩ : ∃ n, us.length = n := ⟨_, rfl⟩
  obtain ⟨n3, hn3⟩ : ∃ n, qs.length = n := ⟨_, rfl⟩
  have HN := Lib.hid hn
  have HN3 := Lib.hid hn3
  rw [hn, hn2, hn3] at HB hb1
  rw [hn2] at HC HG
  rw [hn, hn2, hn3] at HCf
  rw [hn] at hbig
  rw [hn, hn2, hn3]
  clear h hn hn2 hn3
  by_cases h2 : n = n2
  · subst h2
    have d2 : ((n : Int) != (n : Int)) = false := by simp
    by_cases h3 : n = n3
    · subst h3
      cases hck : L.check us with
      | false =>
        have st := HC.out _ hb1.out
        rw [hck] at st
        have st := Lib.hid st
        clear hck HC HG
        go_enter Tryd.func20, Tryd.ntmps20
        go_wp2_with fail
        refine st.out.mono ?_
        rintro e w2 ⟨rfl, hx⟩
        have hfin := Lib.hid (below_next hb1.out hx)
        clear hx st
        go_wp2_with fail
        go_ret
        exact ⟨false, rfl, (fun h => by cases h), hfin.out⟩
      | true =>
        have st := HC.out _ hb1.out
        rw [hck] at st
        have st := Lib.hid st
        have HK := Lib.hid hck
        clear hck HC
        cases hgk : L.gcheck us gs with
        | false =>
          go_enter Tryd.func20, Tryd.ntmps20
          go_wp2_with fail
          refine st.out.mono ?_
          rintro e w2 ⟨rfl, hx⟩
          have hb2 := Lib.hid (below_next hb1.out hx)
          have HB2 := Lib.hid (HB.out.later hx)
          have st := HG.out w2 hb2.out
          rw [hgk] at st
          have st := Lib.hid st
          clear hx hgk HG
          have c1 := HB2.out.cell.2.1
          have c3 := HB2.out.cell.2.2.2
          go_wp2_with fail
          refine st.out.mono ?_
          rintro e w3 ⟨rfl, hx⟩
          have hfin := Lib.hid (below_next hb2.out hx)
          clear hx st c1 c3
          go_wp2_with fail
          go_ret
          exact ⟨false, rfl, (fun h => by cases h), hfin.out⟩
        | true =>
          go_enter Tryd.func20, Tryd.ntmps20
          go_wp2_with fail
          refine st.out.mono ?_
          rintro e w2 ⟨rfl, hx⟩
          have hb2 := Lib.hid (below_next hb1.out hx)
          have HB2 := Lib.hid (HB.out.later hx)
          have st := HG.out w2 hb2.out
          rw [hgk] at st
          have st := Lib.hid st
          have HGK := Lib.hid hgk
          clear hx hgk HG HB hb1
          have c1 := HB2.out.cell.2.1
          have c3 := HB2.out.cell.2.2.2
          go_wp2_with fail
          refine st.out.mono ?_
          rintro e w3 ⟨rfl, hx⟩
          have hb3 := Lib.hid (below_next hb2.out hx)
          have HB3 := Lib.hid (HB2.out.later hx)
          clear hx st c1 c3 HB2 hb2
          have c0 := HB3.out.cell.1
          go_wp2_with fail
          clear c0
          go_loopw [3] (fun i wr => ∃ k : Nat, k ≤ n ∧ i = .int .i64 k ∧ Hid (Cb wr w.heap.size (.slice an n cn) (.slice au n cu) (.slice aq n cq) vg) ∧ Hid (Below w.heap.size w wr)) (fun i _ => n - (intOf i).toNat)
          case atStart => exact ⟨0, by omega, rfl, HB3, hb3⟩
          case round =>
            clear HB3 hb3
            obtain ⟨k, hk, rfl, HCB, hbr⟩ := hrel
            have c0 := HCB.out.cell.1
            by_cases hkn : k < n
            · have hkI : (k : Int) < (n : Int) := by omega
              have hk0 : (0 : Int) ≤ (k : Int) := by omega
              obtain ⟨bn, on, rfl, hat⟩ := HCf.out.n.at (j := k) (by rw [HN.out]; exact hkn)
              have hs := hat wr hbr.out k (by rw [HN.out]; exact hkn)
              have HSt : Hid (∀ W, Below w.heap.size w W → W.cell? ⟨bn, on + k, none⟩ = some (.string (str (ns[k]'(by rw [HN.out]; exact hkn))))) := fun W hW => hat W hW k (by rw [HN.out]; exact hkn)
              obtain ⟨bq, oq, rfl, -⟩ := Zs.at (j := k) HCf.out.q (by rw [HN3.out]; exact hkn)
              have HQt : Hid (∀ W, Below w.heap.size w W → W.cell? ⟨bq, oq + k, none⟩ = some (.int .i64 (qs[k]'(by rw [HN3.out]; exact hkn)))) := fun W hW => by
                obtain ⟨b', o', e, hc⟩ := Zs.at (j := k) (Sl.below HCf.out.q hW) (by rw [HN3.out]; exact hkn)
                obtain ⟨rfl, rfl⟩ : bq = b' ∧ oq = o' := by simpa using e
                exact hc k (by rw [HN3.out]; exact hkn)
              obtain ⟨vt, HVt, hrt⟩ := HCf.out.n.take HN.out k hk
              obtain ⟨x, hx⟩ : ∃ x, ns[k]'(by rw [HN.out]; exact hkn) = x := ⟨_, rfl⟩
              obtain ⟨y, hy⟩ : ∃ y, qs[k]'(by rw [HN3.out]; exact hkn) = y := ⟨_, rfl⟩
              rw [hx] at hs HSt
              rw [hy] at HQt
              clear hx hy hat
              obtain ⟨r, hr⟩ := find_any (ns.take k) x
              have HFd : Hid (∀ W, Below w.heap.size w W → Calls Tryd.prog 39 #[vt, .string (str x)] W fun e w' => e = .returned (.int .i64 r) ∧ Ext W w') := fun W hW => (hr vt W (HVt.below hW)).mono fun e w' ⟨h1, h2⟩ => ⟨h1, ext_of_eq h2⟩
              have st := Lib.hid (name_any (str x) wr)
              clear hr HVt
              go_wp2_with fail
              refine st.out.mono ?_
              rintro e w4 ⟨b, rfl, hx⟩
              have HCB4 := Lib.hid (HCB.out.later hx)
              have hbr4 := Lib.hid (below_next hbr.out hx)
              clear hx st HCB hbr hs c0
              go_wp2_with fail
              refine wp_region_mix ext_grow [(0, false), (1, false), (2, false), (3, false), (4, false), (5, false), (6, false), (7, false), (8, false), (9, false), (10, false), (11, false), (12, false), (13, false), (14, false), (15, false), (16, false), (17, false), (18, false), (19, false), (20, false), (21, false), (22, false), (23, false), (24, false), (25, false), (26, false), (27, false), (28, false), (29, false), (30, false)] (by kernel_rfl) (by kernel_rfl) ?_
              have HC4 : Hid (Cb w4.drew w.heap.size (.slice (some ⟨bn, on, none⟩) n cn) (.slice au n cu) (.slice (some ⟨bq, oq, none⟩) n cq) vg) := HCB4.out
              have hb4 : Hid (Below w.heap.size w w4.drew) := hbr4.out.drew
              clear HCB4 hbr4
              generalize w4.drew = w5 at *
              have hbx : ∀ z : Later w5, Below w.heap.size w z.1 := fun z => below_next hb4.out z.2
              have c0 : ∀ z : Later w5, z.1.cell? ⟨w.heap.size, 0, none⟩ = some (.slice (some ⟨bn, on, none⟩) n cn) := fun z => (HC4.out.later z.2).cell.1
              have c2 : ∀ z : Later w5, z.1.cell? ⟨w.heap.size, 2, none⟩ = some (.slice (some ⟨bq, oq, none⟩) n cq) := fun z => (HC4.out.later z.2).cell.2.2.1
              have s0 : ∀ z : Later w5, z.1.cell? ⟨bn, on + k, none⟩ = some (.string (str x)) := fun z => HSt.out z.1 (hbx z)
              have z0 : ∀ z : Later w5, z.1.cell? ⟨bq, oq + k, none⟩ = some (.int .i64 y) := fun z => HQt.out z.1 (hbx z)
              have HFy : Hid (∀ z : Later w5, Calls Tryd.prog 39 #[vt, .string (str x)] z.1 fun e w' => e = .returned (.int .i64 r) ∧ Ext z.1 w') := fun z => HFd.out z.1 (hbx z)
              have HBX := Lib.hid hbx
              clear hbx HSt HQt HFd
              cases b with
              | false =>
                repeat (refine mix_soft rfl (fun K hK => ?_); go_simp; (first | (refine hK _ ?_; clear hK K) | (apply Exists.intro; refine ⟨fun z => ?_, hK _ ?_⟩; (first | (go_at_call 39; with_reducible exact HFy.out z)); clear hK K)))
                refine mix_done fun w6 hx => ?_
                have hb6 : Hid (Below w.heap.size w w6) := HBX.out ⟨w6, hx⟩
                have HC6 := Lib.hid (HC4.out.later hx)
                clear hx HBX hb4 HC4 c0 c2 s0 z0 HFy
                go_wp2_with fail
                go_ret
                first | exact ⟨false, rfl, (fun h => by cases h), hb6.out⟩ | exact ⟨.inl rfl, hb6.out⟩ | exact ⟨rfl, hb6.out⟩ | exact .inl ⟨rfl, hb6.out⟩ | exact .inl ⟨rfl, (fun h => by cases h), hb6.out⟩
              | true =>
                by_cases h4 : y < 4
                · have d4 : decide (y < 4) = true := by simpa using h4
                  repeat (refine mix_soft rfl (fun K hK => ?_); go_simp; (first | (refine hK _ ?_; clear hK K) | (apply Exists.intro; refine ⟨fun z => ?_, hK _ ?_⟩; (first | (go_at_call 39; with_reducible exact HFy.out z)); clear hK K)))
                  refine mix_done fun w6 hx => ?_
                  have hb6 : Hid (Below w.heap.size w w6) := HBX.out ⟨w6, hx⟩
                  have HC6 := Lib.hid (HC4.out.later hx)
                  clear hx HBX hb4 HC4 c0 c2 s0 z0 HFy
                  go_wp2_with fail
                  go_ret
                  first | exact ⟨false, rfl, (fun h => by cases h), hb6.out⟩ | exact ⟨.inl rfl, hb6.out⟩ | exact ⟨rfl, hb6.out⟩ | exact .inl ⟨rfl, hb6.out⟩ | exact .inl ⟨rfl, (fun h => by cases h), hb6.out⟩
                · have d4 : decide (y < 4) = false := by simpa using h4
                  by_cases h1 : 1000 < y
                  · have d5 : decide (1000 < y) = true := by simpa using h1
                    repeat (refine mix_soft rfl (fun K hK => ?_); go_simp; (first | (refine hK _ ?_; clear hK K) | (apply Exists.intro; refine ⟨fun z => ?_, hK _ ?_⟩; (first | (go_at_call 39; with_reducible exact HFy.out z)); clear hK K)))
                    refine mix_done fun w6 hx => ?_
                    have hb6 : Hid (Below w.heap.size w w6) := HBX.out ⟨w6, hx⟩
                    have HC6 := Lib.hid (HC4.out.later hx)
                    clear hx HBX hb4 HC4 c0 c2 s0 z0 HFy
                    go_wp2_with fail
                    go_ret
                    first | exact ⟨false, rfl, (fun h => by cases h), hb6.out⟩ | exact ⟨.inl rfl, hb6.out⟩ | exact ⟨rfl, hb6.out⟩ | exact .inl ⟨rfl, hb6.out⟩ | exact .inl ⟨rfl, (fun h => by cases h), hb6.out⟩
                  · have d5 : decide (1000 < y) = false := by simpa using h1
                    by_cases hr0 : 0 ≤ r
                    · have d6 : decide (0 ≤ r) = true := by simpa using hr0
                      repeat (refine mix_soft rfl (fun K hK => ?_); go_simp; (first | (refine hK _ ?_; clear hK K) | (apply Exists.intro; refine ⟨fun z => ?_, hK _ ?_⟩; (first | (go_at_call 39; with_reducible exact HFy.out z)); clear hK K)))
                      refine mix_done fun w6 hx => ?_
                      have hb6 : Hid (Below w.heap.size w w6) := HBX.out ⟨w6, hx⟩
                      have HC6 := Lib.hid (HC4.out.later hx)
                      clear hx HBX hb4 HC4 c0 c2 s0 z0 HFy
                      go_wp2_with fail
                      go_ret
                      first | exact ⟨false, rfl, (fun h => by cases h), hb6.out⟩ | exact ⟨.inl rfl, hb6.out⟩ | exact ⟨rfl, hb6.out⟩ | exact .inl ⟨rfl, hb6.out⟩ | exact .inl ⟨rfl, (fun h => by cases h), hb6.out⟩
                    · have d6 : decide (0 ≤ r) = false := by simpa using hr0
                      repeat (refine mix_soft rfl (fun K hK => ?_); go_simp; (first | (refine hK _ ?_; clear hK K) | (apply Exists.intro; refine ⟨fun z => ?_, hK _ ?_⟩; (first | (go_at_call 39; with_reducible exact HFy.out z)); clear hK K)))
                      refine mix_done fun w6 hx => ?_
                      have hb6 : Hid (Below w.heap.size w w6) := HBX.out ⟨w6, hx⟩
                      have HC6 := Lib.hid (HC4.out.later hx)
                      clear hx HBX hb4 HC4 c0 c2 s0 z0 HFy
                      go_wp2_with fail
                      go_roundw
                      case rel => exact ⟨k + 1, by omega, by go_num, HC6, hb6⟩
                      case measure => simp [intOf]; omega
            · have hkI : ¬ ((k : Int) < (n : Int)) := by omega
              go_wp2_with fail
              go_ret
              first | exact ⟨true, rfl, (fun _ => ⟨HK.out, HGK.out⟩), hbr.out⟩ | exact ⟨.inr rfl, hbr.out⟩ | exact .inr ⟨rfl, (fun _ => ⟨HK.out, HGK.out⟩), hbr.out⟩ | exact .inr ⟨rfl, hbr.out⟩
    · have d3 : ((n : Int) != (n3 : Int)) = true := by rw [bne_iff_ne]; omega
      clear HC HG
      go_enter Tryd.func20, Tryd.ntmps20
      go_wp2_with fail
      go_ret
      exact ⟨false, rfl, (fun h => by cases h), hb1.out⟩
  · have d2 : ((n : Int) != (n2 : Int)) = true := by rw [bne_iff_ne]; omega
    clear HC HG
    go_enter Tryd.func20, Tryd.ntmps20
    go_wp2_with fail
    go_ret
    exact ⟨false, rfl, (fun h => by cases h), hb1.out⟩
end Go.Proofs.YtljpfocmnppjgaaDoor
