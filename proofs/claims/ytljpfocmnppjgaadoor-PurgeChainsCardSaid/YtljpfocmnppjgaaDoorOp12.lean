/- What the reference's Same and All return. -/
import Derived.Test.YtljpfocmnppjgaaDoorOp11
import Derived.Test.YtljpfocmnppjgaaDoorSame1
import Derived.Test.YtljpfocmnppjgaaDoorSame2
import Derived.Test.YtljpfocmnppjgaaDoorSame3
namespace Go.Proofs.YtljpfocmnppjgaaDoor
open Go Go.RowKit

set_option maxRecDepth 8000 in
set_option maxHeartbeats 16000000 in
theorem refSame_any (o p : Opr) (u v : Value) (w : World) (hu : Ks w u o.keep) (hv : Ks w v p.keep) :
    Calls Tryd.prog 28 #[opv (o.put u), opv (p.put v)] w fun e w' => ∃ b, e = .returned (.bool b) ∧ (b = true ↔ o = p) ∧ Below w.heap.size w w' := by
  obtain ⟨ua, uc, rfl, -⟩ := hu.shape
  obtain ⟨va, vc, rfl, -⟩ := hv.shape
  have hbu := hu.len
  have HU := Lib.hid hu
  have HV := Lib.hid hv
  clear hu hv
  obtain ⟨a0, a1, a2, a3, a4, a5, a6, a7, a8, a9, ak⟩ := o
  obtain ⟨b0, b1, b2, b3, b4, b5, b6, b7, b8, b9, bk⟩ := p
  simp only [Op11.put] at HU HV hbu ⊢
  obtain ⟨uq, huq⟩ : ∃ q, ak.length = q := ⟨_, rfl⟩
  obtain ⟨vq, hvq⟩ : ∃ q, bk.length = q := ⟨_, rfl⟩
  have HLu := Lib.hid huq
  have HLv := Lib.hid hvq
  rw [huq] at HU hbu ⊢
  rw [hvq] at HV ⊢
  clear huq hvq
  by_cases h0 : a0 = b0
  · subst h0
    by_cases h1 : a1 = b1
    · subst h1
      by_cases h2 : a2 = b2
      · subst h2
        by_cases h3 : a3 = b3
        · subst h3
          by_cases h4 : a4 = b4
          · subst h4
            by_cases h5 : a5 = b5
            · subst h5
              by_cases h6 : a6 = b6
              · subst h6
                by_cases h7 : a7 = b7
                · subst h7
                  by_cases h8 : a8 = b8
                  · subst h8
                    by_cases h9 : a9 = b9
                    · subst h9
                      have HEQ : Hid (ak = bk → (⟨a0, a1, a2, a3, a4, a5, a6, a7, a8, a9, ak⟩ : Opr) = (⟨a0, a1, a2, a3, a4, a5, a6, a7, a8, a9, bk⟩ : Opr)) := fun h => by rw [h]
                      have HNE : Hid (¬ ak = bk → ¬ ((⟨a0, a1, a2, a3, a4, a5, a6, a7, a8, a9, ak⟩ : Opr) = (⟨a0, a1, a2, a3, a4, a5, a6, a7, a8, a9, bk⟩ : Opr))) := fun h h2 => h (by injection h2)
                      by_cases hq : uq = vq
                      · subst hq
                        have dq : ((uq : Int) != (uq : Int)) = false := by simp
                        have hBx : Below w.heap.size w ((w.alloc (.cells #[.int .i64 a0, .int .i64 a1, .int .i64 a2, .int .i64 a3, .string (str a4), .string (str a5), .string (str a6), .int .i64 a7, .int .i64 a8, .int .i64 a9, .slice ua uq uc] 34)).alloc (.cells #[.int .i64 a0, .int .i64 a1, .int .i64 a2, .int .i64 a3, .string (str a4), .string (str a5), .string (str a6), .int .i64 a7, .int .i64 a8, .int .i64 a9, .slice va uq vc] 34)) := ((Below.refl _ _).alloc (Nat.le_refl _) _).alloc (by simp) _
                        obtain ⟨w1, hw1⟩ : ∃ w1, ((w.alloc (.cells #[.int .i64 a0, .int .i64 a1, .int .i64 a2, .int .i64 a3, .string (str a4), .string (str a5), .string (str a6), .int .i64 a7, .int .i64 a8, .int .i64 a9, .slice ua uq uc] 34)).alloc (.cells #[.int .i64 a0, .int .i64 a1, .int .i64 a2, .int .i64 a3, .string (str a4), .string (str a5), .string (str a6), .int .i64 a7, .int .i64 a8, .int .i64 a9, .slice va uq vc] 34)) = w1 := ⟨_, rfl⟩
                        have hBa : Bop w1 w.heap.size ⟨a0, a1, a2, a3, a4, a5, a6, a7, a8, a9, .slice ua uq uc⟩ := by
                          unfold Bop
                          rw [← hw1]
                          exact (Below.heap_alloc _ _ _ (by simp)).trans (heap_alloc_new _ _)
                        have hBb : Bop w1 (w.heap.size + 1) ⟨a0, a1, a2, a3, a4, a5, a6, a7, a8, a9, .slice va uq vc⟩ := by
                          have := heap_alloc_new (w.alloc (.cells #[.int .i64 a0, .int .i64 a1, .int .i64 a2, .int .i64 a3, .string (str a4), .string (str a5), .string (str a6), .int .i64 a7, .int .i64 a8, .int .i64 a9, .slice ua uq uc] 34)) (.cells #[.int .i64 a0, .int .i64 a1, .int .i64 a2, .int .i64 a3, .string (str a4), .string (str a5), .string (str a6), .int .i64 a7, .int .i64 a8, .int .i64 a9, .slice va uq vc] 34)
                          rw [World.size_alloc, hw1] at this
                          exact this
                        rw [hw1] at hBx
                        have HBx := Lib.hid hBx
                        have HBa := Lib.hid hBa
                        have HBb := Lib.hid hBb
                        have HW1 := Lib.hid hw1
                        clear hBa hBb hw1 hBx
                        go_enter Tryd.func28, Tryd.ntmps28
                        go_wp2_with fail
                        rw [HW1.out]
                        clear HW1
                        go_loopw [5] (fun i wr => ∃ k : Nat, k ≤ uq ∧ i = .int .i64 k ∧ Hid (ak.take k = bk.take k) ∧ Hid (Bop wr w.heap.size ⟨a0, a1, a2, a3, a4, a5, a6, a7, a8, a9, .slice ua uq uc⟩) ∧ Hid (Bop wr (w.heap.size + 1) ⟨a0, a1, a2, a3, a4, a5, a6, a7, a8, a9, .slice va uq vc⟩) ∧ Hid (Below w.heap.size w wr)) (fun i _ => uq - (intOf i).toNat)
                        case atStart => exact ⟨0, by omega, rfl, rfl, HBa, HBb, HBx⟩
                        case round =>
                          clear HBa HBb HBx
                          obtain ⟨k, hk, rfl, HT, HBa, HBb, hbr⟩ := hrel
                          have ca := HBa.out.at.c10
                          have cb := HBb.out.at.c10
                          simp only [] at ca cb
                          by_cases hku : k < uq
                          · have hkI : (k : Int) < (uq : Int) := by omega
                            have hk0 : (0 : Int) ≤ (k : Int) := by omega
                            obtain ⟨ba, oa, rfl, hta⟩ := HU.out.at (j := k) (by rw [HLu.out]; exact hku)
                            obtain ⟨bb, ob, rfl, htb⟩ := HV.out.at (j := k) (by rw [HLv.out]; exact hku)
                            have sa := hta wr hbr.out k (by rw [HLu.out]; exact hku)
                            have sb := htb wr hbr.out k (by rw [HLv.out]; exact hku)
                            have e1 : ak.take (k + 1) = ak.take k ++ [ak[k]'(by rw [HLu.out]; exact hku)] := List.take_succ_eq_append_getElem _
                            have e2 : bk.take (k + 1) = bk.take k ++ [bk[k]'(by rw [HLv.out]; exact hku)] := List.take_succ_eq_append_getElem _
                            have hne : Hid (ak[k]'(by rw [HLu.out]; exact hku) ≠ bk[k]'(by rw [HLv.out]; exact hku) → ¬ ak = bk) := fun h h2 => by subst h2; exact h rfl
                            obtain ⟨x, hx⟩ : ∃ x, ak[k]'(by rw [HLu.out]; exact hku) = x := ⟨_, rfl⟩
                            obtain ⟨y, hy⟩ : ∃ y, bk[k]'(by rw [HLv.out]; exact hku) = y := ⟨_, rfl⟩
                            rw [hx] at sa e1 hne
                            rw [hy] at sb e2 hne
                            clear hx hy hta htb
                            by_cases hxy : x = y
                            · subst hxy
                              have d : (x == x) = true := by simp
                              have HT2 : Hid (ak.take (k + 1) = bk.take (k + 1)) := by unfold Hid; rw [e1, e2, HT.out]
                              clear e1 e2 hne HT
                              go_wp2_with fail
                              go_quiet (fail)
                              clear sa sb ca cb d
                              go_wp2_with fail
                              go_roundw
                              case rel => exact ⟨k + 1, by omega, by go_num, HT2, HBa.out.later (below_drewN _ _), HBb.out.later (below_drewN _ _), Lib.hid (below_next hbr.out (below_drewN _ _))⟩
                              case measure => simp [intOf]; omega
                            · have d : (x == y) = false := by simp [hxy]
                              have HF := Lib.hid (HNE.out (hne.out hxy))
                              clear e1 e2 hne HT hxy HBa HBb
                              go_wp2_with fail
                              go_quiet (fail)
                              clear sa sb ca cb d
                              go_wp2_with fail
                              go_ret
                              exact ⟨false, rfl, ⟨(fun h => by cases h), (fun h => absurd h HF.out)⟩, below_next hbr.out (below_drewN _ _)⟩
                          · obtain rfl : k = uq := by omega
                            have HF := Lib.hid (HEQ.out (by have := HT.out; rwa [List.take_of_length_le (Nat.le_of_eq HLu.out), List.take_of_length_le (Nat.le_of_eq HLv.out)] at this))
                            clear HBa HBb HT
                            go_wp2_with fail
                            go_ret
                            exact ⟨true, rfl, ⟨(fun _ => HF.out), (fun _ => rfl)⟩, hbr.out⟩
                      · exact same_no10 _ _ _ _ _ _ _ _ _ _ _ _ _ _ _ _ w (by rw [bne_iff_ne]; omega) _ (fun w' hb => ⟨false, rfl, ⟨(fun h => by cases h), (fun h => absurd h (HNE.out (fun h => hq (by rw [← HLu.out, ← HLv.out, h]))))⟩, hb⟩)
                    · exact same_no9 _ _ _ _ _ _ _ _ _ _ _ _ _ _ _ _ _ w (by simpa using h9) _ (fun w' hb => ⟨false, rfl, ⟨(fun h => by cases h), (fun h => absurd (by injection h) h9)⟩, hb⟩)
                  · exact same_no8 _ _ _ _ _ _ _ _ _ _ _ _ _ _ _ _ _ _ w (by simpa using h8) _ (fun w' hb => ⟨false, rfl, ⟨(fun h => by cases h), (fun h => absurd (by injection h) h8)⟩, hb⟩)
                · exact same_no7 _ _ _ _ _ _ _ _ _ _ _ _ _ _ _ _ _ _ _ w (by simpa using h7) _ (fun w' hb => ⟨false, rfl, ⟨(fun h => by cases h), (fun h => absurd (by injection h) h7)⟩, hb⟩)
              · exact same_no6 _ _ _ _ _ _ _ _ _ _ _ _ _ _ _ _ _ _ _ _ w (by simpa using h6) _ (fun w' hb => ⟨false, rfl, ⟨(fun h => by cases h), (fun h => absurd (by injection h) h6)⟩, hb⟩)
            · exact same_no5 _ _ _ _ _ _ _ _ _ _ _ _ _ _ _ _ _ _ _ _ _ w (by simpa using h5) _ (fun w' hb => ⟨false, rfl, ⟨(fun h => by cases h), (fun h => absurd (by injection h) h5)⟩, hb⟩)
          · exact same_no4 _ _ _ _ _ _ _ _ _ _ _ _ _ _ _ _ _ _ _ _ _ _ w (by simpa using h4) _ (fun w' hb => ⟨false, rfl, ⟨(fun h => by cases h), (fun h => absurd (by injection h) h4)⟩, hb⟩)
        · exact same_no3 _ _ _ _ _ _ _ _ _ _ _ _ _ _ _ _ _ _ _ _ _ _ _ w (by simpa using h3) _ (fun w' hb => ⟨false, rfl, ⟨(fun h => by cases h), (fun h => absurd (by injection h) h3)⟩, hb⟩)
      · exact same_no2 _ _ _ _ _ _ _ _ _ _ _ _ _ _ _ _ _ _ _ _ _ _ _ _ w (by simpa using h2) _ (fun w' hb => ⟨false, rfl, ⟨(fun h => by cases h), (fun h => absurd (by injection h) h2)⟩, hb⟩)
    · exact same_no1 _ _ _ _ _ _ _ _ _ _ _ _ _ _ _ _ _ _ _ _ _ _ _ _ _ w (by simpa using h1) _ (fun w' hb => ⟨false, rfl, ⟨(fun h => by cases h), (fun h => absurd (by injection h) h1)⟩, hb⟩)
  · exact same_no0 _ _ _ _ _ _ _ _ _ _ _ _ _ _ _ _ _ _ _ _ _ _ _ _ _ _ w (by simpa using h0) _ (fun w' hb => ⟨false, rfl, ⟨(fun h => by cases h), (fun h => absurd (by injection h) h0)⟩, hb⟩)

set_option maxRecDepth 4000 in
set_option maxHeartbeats 2000000 in
theorem refAll_any (v1 v2 : Value) (l m : List Opr) (w : World) (h1 : Os w v1 l) (h2 : Os w v2 m) :
    Calls Tryd.prog 13 #[v1, v2] w fun e w' => ∃ b, e = .returned (.bool b) ∧ (b = true ↔ l = m) ∧ Below w.heap.size w w' := by
  have hbig := h1.len
  obtain ⟨ao1, cap1, rfl, -⟩ := h1.shape
  obtain ⟨ao2, cap2, rfl, -⟩ := h2.shape
  by_cases hlen : l.length = m.length
  · have hne : ((l.length : Int) != (m.length : Int)) = false := by rw [bne_eq_false_iff_eq]; omega
    have H1 := Lib.hid h1
    have H2 := Lib.hid h2
    clear h1 h2
    obtain ⟨N, hN⟩ : ∃ N, l.length = N := ⟨_, rfl⟩
    have hM := hlen.symm.trans hN
    have HN := Lib.hid hN
    have HM := Lib.hid hM
    rw [hN] at hne hbig H1 ⊢
    rw [hM] at hne H2 ⊢
    clear hN hM hlen
    go_enter Tryd.func13, Tryd.ntmps13
    go_wp2_with fail
    go_loopw [5] (fun i wr => ∃ k : Nat, k ≤ N ∧ i = .int .i64 k ∧ Hid (l.take k = m.take k) ∧ Hid (Below w.heap.size w wr)) (fun i _ => N - (intOf i).toNat)
    case atStart => exact ⟨0, by omega, rfl, rfl, Below.refl _ _⟩
    case round =>
      obtain ⟨k, hk, rfl, HT, hbr⟩ := hrel
      by_cases hkl : k < N
      · have hkI : (k : Int) < (N : Int) := by omega
        have hk0 : (0 : Int) ≤ (k : Int) := by omega
        obtain ⟨b1, o1, u1, rfl, hk1, ht1⟩ := H1.out.at (j := k) (by rw [HN.out]; exact hkl)
        obtain ⟨b2, o2, u2, rfl, hk2, ht2⟩ := H2.out.at (j := k) (by rw [HM.out]; exact hkl)
        have e1 : l.take (k + 1) = l.take k ++ [l[k]'(by rw [HN.out]; exact hkl)] := List.take_succ_eq_append_getElem _
        have e2 : m.take (k + 1) = m.take k ++ [m[k]'(by rw [HM.out]; exact hkl)] := List.take_succ_eq_append_getElem _
        have hne : Hid (l[k]'(by rw [HN.out]; exact hkl) ≠ m[k]'(by rw [HM.out]; exact hkl) → ¬ l = m) := fun h h2 => by subst h2; exact h rfl
        obtain ⟨x, hx⟩ : ∃ x, l[k]'(by rw [HN.out]; exact hkl) = x := ⟨_, rfl⟩
        obtain ⟨y, hy⟩ : ∃ y, m[k]'(by rw [HM.out]; exact hkl) = y := ⟨_, rfl⟩
        rw [hx] at hk1 ht1 e1 hne
        rw [hy] at hk2 ht2 e2 hne
        have HK1 := Lib.hid hk1
        have HK2 := Lib.hid hk2
        have HA1 := Lib.hid ht1
        have HA2 := Lib.hid ht2
        have HS := Lib.hid (fun W (hW : Below w.heap.size w W) => refSame_any x y u1 u2 W (hk1.below hW) (hk2.below hW))
        have HE : Hid (x = y → l.take (k + 1) = m.take (k + 1)) := fun h => by rw [e1, e2, HT.out, h]
        clear hx hy hk1 hk2 ht1 ht2 e1 e2 HT
        go_wp2_with fail
        refine wp_region_mix ext_grow [(0, false), (1, false), (2, false), (3, false), (4, false), (5, false), (6, false), (7, false), (8, false), (9, false)] (by kernel_rfl) (by kernel_rfl) ?_
        have hb4 : Hid (Below w.heap.size w wr.drew) := hbr.out.drew
        clear hbr
        generalize wr.drew = w4 at *
        have hbx : ∀ z : Later w4, Below w.heap.size w z.1 := fun z => below_next hb4.out z.2
        have p0 : ∀ z : Later w4, z.1.cell? ⟨b1, o1 + k * 11, none⟩ = some (.int .i64 x.kind) := fun z => (HA1.out z.1 (hbx z)).c0
        have p1 : ∀ z : Later w4, z.1.cell? ⟨b1, o1 + k * 11 + 1, none⟩ = some (.int .i64 x.level) := fun z => (HA1.out z.1 (hbx z)).c1
        have p2 : ∀ z : Later w4, z.1.cell? ⟨b1, o1 + k * 11 + 2, none⟩ = some (.int .i64 x.ses) := fun z => (HA1.out z.1 (hbx z)).c2
        have p3 : ∀ z : Later w4, z.1.cell? ⟨b1, o1 + k * 11 + 3, none⟩ = some (.int .i64 x.snap) := fun z => (HA1.out z.1 (hbx z)).c3
        have p4 : ∀ z : Later w4, z.1.cell? ⟨b1, o1 + k * 11 + 4, none⟩ = some (.string (str x.bucket)) := fun z => (HA1.out z.1 (hbx z)).c4
        have p5 : ∀ z : Later w4, z.1.cell? ⟨b1, o1 + k * 11 + 5, none⟩ = some (.string (str x.key)) := fun z => (HA1.out z.1 (hbx z)).c5
        have p6 : ∀ z : Later w4, z.1.cell? ⟨b1, o1 + k * 11 + 6, none⟩ = some (.string (str x.val)) := fun z => (HA1.out z.1 (hbx z)).c6
        have p7 : ∀ z : Later w4, z.1.cell? ⟨b1, o1 + k * 11 + 7, none⟩ = some (.int .i64 x.label) := fun z => (HA1.out z.1 (hbx z)).c7
        have p8 : ∀ z : Later w4, z.1.cell? ⟨b1, o1 + k * 11 + 8, none⟩ = some (.int .i64 x.to) := fun z => (HA1.out z.1 (hbx z)).c8
        have p9 : ∀ z : Later w4, z.1.cell? ⟨b1, o1 + k * 11 + 9, none⟩ = some (.int .i64 x.n) := fun z => (HA1.out z.1 (hbx z)).c9
        have p10 : ∀ z : Later w4, z.1.cell? ⟨b1, o1 + k * 11 + 10, none⟩ = some (u1) := fun z => (HA1.out z.1 (hbx z)).c10
        have q0 : ∀ z : Later w4, z.1.cell? ⟨b2, o2 + k * 11, none⟩ = some (.int .i64 y.kind) := fun z => (HA2.out z.1 (hbx z)).c0
        have q1 : ∀ z : Later w4, z.1.cell? ⟨b2, o2 + k * 11 + 1, none⟩ = some (.int .i64 y.level) := fun z => (HA2.out z.1 (hbx z)).c1
        have q2 : ∀ z : Later w4, z.1.cell? ⟨b2, o2 + k * 11 + 2, none⟩ = some (.int .i64 y.ses) := fun z => (HA2.out z.1 (hbx z)).c2
        have q3 : ∀ z : Later w4, z.1.cell? ⟨b2, o2 + k * 11 + 3, none⟩ = some (.int .i64 y.snap) := fun z => (HA2.out z.1 (hbx z)).c3
        have q4 : ∀ z : Later w4, z.1.cell? ⟨b2, o2 + k * 11 + 4, none⟩ = some (.string (str y.bucket)) := fun z => (HA2.out z.1 (hbx z)).c4
        have q5 : ∀ z : Later w4, z.1.cell? ⟨b2, o2 + k * 11 + 5, none⟩ = some (.string (str y.key)) := fun z => (HA2.out z.1 (hbx z)).c5
        have q6 : ∀ z : Later w4, z.1.cell? ⟨b2, o2 + k * 11 + 6, none⟩ = some (.string (str y.val)) := fun z => (HA2.out z.1 (hbx z)).c6
        have q7 : ∀ z : Later w4, z.1.cell? ⟨b2, o2 + k * 11 + 7, none⟩ = some (.int .i64 y.label) := fun z => (HA2.out z.1 (hbx z)).c7
        have q8 : ∀ z : Later w4, z.1.cell? ⟨b2, o2 + k * 11 + 8, none⟩ = some (.int .i64 y.to) := fun z => (HA2.out z.1 (hbx z)).c8
        have q9 : ∀ z : Later w4, z.1.cell? ⟨b2, o2 + k * 11 + 9, none⟩ = some (.int .i64 y.n) := fun z => (HA2.out z.1 (hbx z)).c9
        have q10 : ∀ z : Later w4, z.1.cell? ⟨b2, o2 + k * 11 + 10, none⟩ = some (u2) := fun z => (HA2.out z.1 (hbx z)).c10
        have HBX := Lib.hid hbx
        clear hbx
        by_cases hxy : x = y
        · have HSy : Hid (∀ z : Later w4, Calls Tryd.prog 28 #[.agg #[.int .i64 x.kind, .int .i64 x.level, .int .i64 x.ses, .int .i64 x.snap, .string (str x.bucket), .string (str x.key), .string (str x.val), .int .i64 x.label, .int .i64 x.to, .int .i64 x.n, u1], .agg #[.int .i64 y.kind, .int .i64 y.level, .int .i64 y.ses, .int .i64 y.snap, .string (str y.bucket), .string (str y.key), .string (str y.val), .int .i64 y.label, .int .i64 y.to, .int .i64 y.n, u2]] z.1 fun e w' => e = .returned (.bool true) ∧ Ext z.1 w') := fun z => (HS.out z.1 (HBX.out z)).mono fun e w' ⟨b, h1, h2, h3⟩ => ⟨by rw [h1, h2.2 hxy], h3⟩
          have HT2 := Lib.hid (HE.out hxy)
          clear hxy HE hne
          repeat (refine mix_soft rfl (fun K hK => ?_); go_simp; (first | (refine hK _ ?_; clear hK K) | (apply Exists.intro; refine ⟨fun z => ?_, hK _ ?_⟩; (first | (go_at_call 28; with_reducible exact HSy.out z)); clear hK K)))
          clear p0 q0 p1 q1 p2 q2 p3 q3 p4 q4 p5 q5 p6 q6 p7 q7 p8 q8 p9 q9 p10 q10
          refine mix_done fun w5 hx => ?_
          have hb5 : Hid (Below w.heap.size w w5) := HBX.out ⟨w5, hx⟩
          clear hx HBX hb4
          go_wp2_with fail
          go_roundw
          case rel => exact ⟨k + 1, by omega, by go_num, HT2, hb5⟩
          case measure => simp [intOf]; omega
        · have HSy : Hid (∀ z : Later w4, Calls Tryd.prog 28 #[.agg #[.int .i64 x.kind, .int .i64 x.level, .int .i64 x.ses, .int .i64 x.snap, .string (str x.bucket), .string (str x.key), .string (str x.val), .int .i64 x.label, .int .i64 x.to, .int .i64 x.n, u1], .agg #[.int .i64 y.kind, .int .i64 y.level, .int .i64 y.ses, .int .i64 y.snap, .string (str y.bucket), .string (str y.key), .string (str y.val), .int .i64 y.label, .int .i64 y.to, .int .i64 y.n, u2]] z.1 fun e w' => e = .returned (.bool false) ∧ Ext z.1 w') := fun z => (HS.out z.1 (HBX.out z)).mono fun e w' ⟨b, h1, h2, h3⟩ => ⟨by rw [h1, show b = false from Bool.eq_false_iff.2 fun h => hxy (h2.1 h)], h3⟩
          have HF := Lib.hid (hne.out hxy)
          clear hxy HE hne
          repeat (refine mix_soft rfl (fun K hK => ?_); go_simp; (first | (refine hK _ ?_; clear hK K) | (apply Exists.intro; refine ⟨fun z => ?_, hK _ ?_⟩; (first | (go_at_call 28; with_reducible exact HSy.out z)); clear hK K)))
          clear p0 q0 p1 q1 p2 q2 p3 q3 p4 q4 p5 q5 p6 q6 p7 q7 p8 q8 p9 q9 p10 q10
          refine mix_done fun w5 hx => ?_
          have hb5 : Hid (Below w.heap.size w w5) := HBX.out ⟨w5, hx⟩
          clear hx HBX hb4
          go_wp2_with fail
          go_ret
          exact ⟨false, rfl, ⟨(fun h => by cases h), (fun h => absurd h HF.out)⟩, hb5.out⟩
      · have HF : Hid (l = m) := by
          have := HT.out
          rwa [List.take_of_length_le (by rw [HN.out]; omega), List.take_of_length_le (by rw [HM.out]; omega)] at this
        go_wp2_with fail
        go_ret
        exact ⟨true, rfl, ⟨(fun _ => HF.out), (fun _ => rfl)⟩, hbr.out⟩
  · have hne : ((l.length : Int) != (m.length : Int)) = true := by rw [bne_iff_ne]; omega
    have HF : Hid (¬ l = m) := fun h => hlen (by rw [h])
    clear h1 h2 hlen
    go_enter Tryd.func13, Tryd.ntmps13
    go_wp2_with fail
    go_ret
    exact ⟨false, rfl, ⟨(fun h => by cases h), (fun h => absurd h HF.out)⟩, Below.refl _ _⟩
end Go.Proofs.YtljpfocmnppjgaaDoor
