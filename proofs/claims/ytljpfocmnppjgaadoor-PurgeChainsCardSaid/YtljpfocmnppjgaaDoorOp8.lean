/- What the reference's Trim returns. -/
import Derived.Test.YtljpfocmnppjgaaDoorOp7
namespace Go.Proofs.YtljpfocmnppjgaaDoor
open Go Go.RowKit

theorem strCells_append (l m : List (List UInt8)) : strCells (l ++ m) = strCells l ++ strCells m := by simp [strCells]
theorem own_not {w : World} {base t sz n : Nat} {u : Value} {cs : List Value} (h : w.ownsRow base t sz u n cs) {B : Nat} (hB : B < base) : some B ≠ u.ownBlock := fun e => by
  have := ownBlock_ge h B e.symm
  omega
theorem Bop.grown {w w' : World} {p : Nat} {r : Rop} {row : Option Nat} (h : Bop w p r) (hb : w.grownBy w' row) (hp : some p ≠ row) : Bop w' p r := (hb.block p h.lt hp).trans h
theorem Rowq.grown {w w' : World} {q : Nat} {cs : Array Value} {row : Option Nat} (h : Rowq w q cs) (hb : w.grownBy w' row) (hp : some q ≠ row) : Rowq w' q cs := ⟨(hb.block q (Array.getElem?_eq_some_iff.1 h.1).1 hp).trans h.1, h.2⟩
theorem L.keeps_step {p : Int → Bool} {l : List (List UInt8)} {k : Nat} (hk : k < l.length) : (L.keeps p l).take (k + 1) = (L.keeps p l).take k ++ [if p (k : Int) then l[k] else []] := by
  rw [List.take_succ_eq_append_getElem (by rw [L.keeps_length]; exact hk), L.keeps_at]
theorem rtrim_results (tmps : Array Value) (w : World) (b : Nat) (r : Rop) (hp : tmps.getD 6 undef = .pointer (some ⟨b, 0, none⟩)) (hc : Bop w b r) :
    (results Tryd.f35 tmps).run Tryd.prog w = .ok (opv r) w := by
  obtain ⟨p0, p1, p2, p3, p4, p5, p6, p7, p8, p9, p10⟩ := hc.at
  rw [results_cell rfl, hp]
  go_simp

set_option maxRecDepth 4000 in
set_option maxHeartbeats 4000000 in
theorem refTrim_any (vu : Value) (us : List Nat) (o : Opr) (u : Value) (level : Int) (w : World) (hu : Us w vu us) (hU : U64s us) (hk : Ks w u o.keep) (hlen : o.keep.length ≤ 100000) :
    Calls Tryd.prog 35 #[vu, opv (o.put u), .int .i64 level] w fun e w' => ∃ u', e = .returned (opv ((L.trim (fun a => L.leq us a level) o).put u')) ∧ ((u' = u ∧ (L.trim (fun a => L.leq us a level) o).keep = o.keep) ∨ w'.ownsRow w.heap.size 9 1 u' (L.trim (fun a => L.leq us a level) o).keep.length (strCells (L.trim (fun a => L.leq us a level) o).keep)) ∧ Below w.heap.size w w' := by
  have HQ := Lib.hid (fun W (hW : Below w.heap.size w W) (a : Int) => refLeq_any vu us a level W (hu.below hW) hU)
  have HK := Lib.hid hk
  obtain ⟨ua, uc, rfl, -⟩ := hk.shape
  clear hk hu
  by_cases h16 : o.kind = 16
  · obtain ⟨o0, o1, o2, o3, o4, o5, o6, o7, o8, o9, k⟩ := o
    simp only [] at h16 hlen HK
    subst h16
    have HTRg : Hid (L.trim (fun a => L.leq us a level) ⟨16, o1, o2, o3, o4, o5, o6, o7, o8, o9, k⟩ = if L.leq us o1 level then ⟨16, o1, o2, o3, o4, o5, o6, o7, o8, o9, L.keeps (fun a => L.leq us a level) k⟩ else ⟨16, 0, 0, o3, o4, o5, o6, o7, o8, 0, L.keeps (fun a => L.leq us a level) k⟩) := rfl
    obtain ⟨uq, hq⟩ : ∃ uq, k.length = uq := ⟨_, rfl⟩
    have HKq := Lib.hid hq
    rw [hq] at hlen HK
    try rw [hq]
    clear hq
    obtain ⟨w1, hw1⟩ : ∃ w1, (w.alloc (.cells #[.int .i64 16, .int .i64 o1, .int .i64 o2, .int .i64 o3, .string (str o4), .string (str o5), .string (str o6), .int .i64 o7, .int .i64 o8, .int .i64 o9, .slice ua uq uc] 34)).alloc (.cells zeroOp 34) = w1 := ⟨_, rfl⟩
    obtain ⟨B, hB⟩ : ∃ B, w.heap.size = B := ⟨_, rfl⟩
    have HB := Lib.hid hB
    have hb1 : Below B w w1 := by rw [← hw1]; exact ((Below.refl _ _).alloc (Nat.le_of_eq hB.symm) _).alloc (by simp; omega) _
    have x1 : Bop w1 B ⟨16, o1, o2, o3, o4, o5, o6, o7, o8, o9, .slice ua uq uc⟩ := by
      unfold Bop
      rw [← hw1, ← hB]
      exact (Below.heap_alloc _ _ _ (by simp)).trans (heap_alloc_new _ _)
    have x2 : Rowq w1 (B + 1) zeroOp := by
      have := heap_alloc_new (w.alloc (.cells #[.int .i64 16, .int .i64 o1, .int .i64 o2, .int .i64 o3, .string (str o4), .string (str o5), .string (str o6), .int .i64 o7, .int .i64 o8, .int .i64 o9, .slice ua uq uc] 34)) (.cells zeroOp 34)
      rw [World.size_alloc, hB, hw1] at this
      exact ⟨this, rfl⟩
    have X1 := Lib.hid x1
    have X2 := Lib.hid x2
    have hb1 := Lib.hid hb1
    clear x1 x2
    simp only [Op11.put]
    go_enter Tryd.func35, Tryd.ntmps35
    go_wp2_with fail
    rw [show ((w.alloc (.cells #[.int .i64 16, .int .i64 o1, .int .i64 o2, .int .i64 o3, .string (str o4), .string (str o5), .string (str o6), .int .i64 o7, .int .i64 o8, .int .i64 o9, .slice ua uq uc] 34)).alloc (.cells #[.int .i64 0, .int .i64 0, .int .i64 0, .int .i64 0, .string ⟨#[]⟩, .string ⟨#[]⟩, .string ⟨#[]⟩, .int .i64 0, .int .i64 0, .int .i64 0, .slice none 0 0] 34)) = w1 from hw1]
    clear hw1
    go_loopw [7, 8] (fun t i wr => ∃ j : Nat, j ≤ uq ∧ i = .int .i64 j ∧ Hid (Bop wr B ⟨16, o1, o2, o3, o4, o5, o6, o7, o8, o9, .slice ua uq uc⟩) ∧ Hid (Rowq wr (B + 1) zeroOp) ∧ Hid (wr.ownsRow (B + 2) 9 1 t j (strCells ((L.keeps (fun a => L.leq us a level) k).take j))) ∧ Hid (Below B w wr)) (fun _ i _ => uq - (intOf i).toNat)
    case atStart => exact ⟨0, by omega, rfl, X1, X2, World.ownsRow_nil _ _ _ _, hb1⟩
    case round =>
      clear X1 X2 hb1
      obtain ⟨j, hj, rfl, HBx, HZx, HOx, hbx⟩ := hrel
      have c10' := HBx.out.at.c10
      by_cases hjn : j < uq
      · have hjI : (j : Int) < (uq : Int) := by omega
        have hj0 : (0 : Int) ≤ (j : Int) := by omega
        have HST : Hid ((L.keeps (fun a => L.leq us a level) k).take (j + 1) = (L.keeps (fun a => L.leq us a level) k).take j ++ [if L.leq us (j : Int) level then k[j]'(by rw [HKq.out]; exact hjn) else []]) := L.keeps_step (by rw [HKq.out]; exact hjn)
        have s := Lib.hid (HQ.out wr (by rw [HB.out]; exact hbx.out) (j : Int))
        cases hc : L.leq us (j : Int) level with
        | true =>
          obtain ⟨b, off, rfl, hat⟩ := HK.out.at (j := j) (by rw [HKq.out]; exact hjn)
          have hx := hat wr (by rw [HB.out]; exact hbx.out) j (by rw [HKq.out]; exact hjn)
          rw [hc, if_pos rfl] at HST
          obtain ⟨x, hxx⟩ : ∃ x, k[j]'(by rw [HKq.out]; exact hjn) = x := ⟨_, rfl⟩
          rw [hxx] at hx HST
          rw [hc] at s
          clear hc hat hxx
          have HO6 := Lib.hid (HOx.out.alloc (.cells #[.string (str x)] 9))
          have HS6 : Hid (Sl (wr.alloc (.cells #[.string (str x)] 9)) 1 1 (.slice (some ⟨wr.heap.size, 0, none⟩) 1 1) (strCells [x])) := Sl.lit wr 9 1 1 #[.string (str x)] (0, 0) rfl (by decide)
          have hsz : B + 2 ≤ wr.heap.size := (Array.getElem?_eq_some_iff.1 HZx.out.1).1
          have hb6 : Hid (Below B w (wr.alloc (.cells #[.string (str x)] 9))) := hbx.out.alloc (by omega) _
          have hB6 := Lib.hid (HBx.out.later ((Below.refl _ wr).alloc (Nat.le_refl _) (.cells #[.string (str x)] 9)))
          have hZ6 := Lib.hid (HZx.out.later ((Below.refl _ wr).alloc (Nat.le_refl _) (.cells #[.string (str x)] 9)))
          have hG6 : B + 2 ≤ (wr.alloc (.cells #[.string (str x)] 9)).heap.size := by simp; omega
          clear HOx HZx hbx
          go_wp2_with fail
          refine s.out.mono ?_
          rintro e w3 ⟨rfl, rfl⟩
          clear s
          have c10 := HBx.out.at.c10
          clear HBx
          go_wp2_with (at_builtin; go_must (refine wpList_append_sl rfl _ _ 22 rfl (B + 2) 9 _ 1 16 Tryd.underlying22 infoStr rfl (by decide) _ _ _ rfl HO6.out _ 1 (strCells [x]) rfl HS6.out (str_oneCell _) (by unfold maxLen; omega) (by omega) hG6 ?_))
          intro v7 w7 hown7 hgrow hnn
          clear hnn
          have hne := fun (q : Nat) (h : q < B + 2) => own_not HO6.out h
          have HO7 : Hid (w7.ownsRow (B + 2) 9 1 v7 (j + 1) (strCells ((L.keeps (fun a => L.leq us a level) k).take (j + 1)))) := by
            unfold Hid
            rw [HST.out, strCells_append]
            exact hown7
          have hb7 : Hid (Below B w w7) := hb6.out.grown hgrow (by omega) (fun g hg => by have := ownBlock_ge HO6.out g hg; omega)
          have hB7 := Lib.hid (hB6.out.grown hgrow (hne _ (by omega)))
          have hZ7 := Lib.hid (hZ6.out.grown hgrow (hne _ (by omega)))
          clear hown7 hgrow HO6 HS6 hb6 hB6 hZ6 hG6 hsz hne c10
          go_wp2_with fail
          go_roundw
          case rel => exact ⟨j + 1, by omega, by go_num, hB7, hZ7, HO7, hb7⟩
          case measure => simp [intOf]; omega
        | false =>
          rw [hc, if_neg (by decide)] at HST
          rw [hc] at s
          clear hc
          have HST : Hid ((L.keeps (fun a => L.leq us a level) k).take (j + 1) = (L.keeps (fun a => L.leq us a level) k).take j ++ [([] : List UInt8)]) := HST
          have HO6 := Lib.hid (HOx.out.alloc (.cells #[.string (str ([] : List UInt8))] 9))
          have HS6 : Hid (Sl (wr.alloc (.cells #[.string (str ([] : List UInt8))] 9)) 1 1 (.slice (some ⟨wr.heap.size, 0, none⟩) 1 1) (strCells [([] : List UInt8)])) := Sl.lit wr 9 1 1 #[.string (str ([] : List UInt8))] (0, 0) rfl (by decide)
          have hsz : B + 2 ≤ wr.heap.size := (Array.getElem?_eq_some_iff.1 HZx.out.1).1
          have hb6 : Hid (Below B w (wr.alloc (.cells #[.string (str ([] : List UInt8))] 9))) := hbx.out.alloc (by omega) _
          have hB6 := Lib.hid (HBx.out.later ((Below.refl _ wr).alloc (Nat.le_refl _) (.cells #[.string (str ([] : List UInt8))] 9)))
          have hZ6 := Lib.hid (HZx.out.later ((Below.refl _ wr).alloc (Nat.le_refl _) (.cells #[.string (str ([] : List UInt8))] 9)))
          have hG6 : B + 2 ≤ (wr.alloc (.cells #[.string (str ([] : List UInt8))] 9)).heap.size := by simp; omega
          clear HOx HZx hbx
          go_wp2_with fail
          refine s.out.mono ?_
          rintro e w3 ⟨rfl, rfl⟩
          clear s
          have c10 := HBx.out.at.c10
          clear HBx
          go_wp2_with (at_builtin; go_must (refine wpList_append_sl rfl _ _ 22 rfl (B + 2) 9 _ 1 16 Tryd.underlying22 infoStr rfl (by decide) _ _ _ rfl HO6.out _ 1 (strCells [([] : List UInt8)]) rfl HS6.out (str_oneCell _) (by unfold maxLen; omega) (by omega) hG6 ?_))
          intro v7 w7 hown7 hgrow hnn
          clear hnn
          have hne := fun (q : Nat) (h : q < B + 2) => own_not HO6.out h
          have HO7 : Hid (w7.ownsRow (B + 2) 9 1 v7 (j + 1) (strCells ((L.keeps (fun a => L.leq us a level) k).take (j + 1)))) := by
            unfold Hid
            rw [HST.out, strCells_append]
            exact hown7
          have hb7 : Hid (Below B w w7) := hb6.out.grown hgrow (by omega) (fun g hg => by have := ownBlock_ge HO6.out g hg; omega)
          have hB7 := Lib.hid (hB6.out.grown hgrow (hne _ (by omega)))
          have hZ7 := Lib.hid (hZ6.out.grown hgrow (hne _ (by omega)))
          clear hown7 hgrow HO6 HS6 hb6 hB6 hZ6 hG6 hsz hne c10
          go_wp2_with fail
          go_roundw
          case rel => exact ⟨j + 1, by omega, by go_num, hB7, hZ7, HO7, hb7⟩
          case measure => simp [intOf]; omega
      · obtain rfl : j = uq := by omega
        rw [show (L.keeps (fun a => L.leq us a level) k).take j = L.keeps (fun a => L.leq us a level) k by rw [List.take_of_length_le (by rw [L.keeps_length, HKq.out]; exact Nat.le_refl _)]] at HOx
        obtain ⟨a', c', rfl, -⟩ := own_strs HOx.out
        have s := Lib.hid (HQ.out (wr.setCell ⟨B, 10, none⟩ (.slice a' j c')) (by rw [HB.out]; exact hbx.out.setCell (p := ⟨B, 10, none⟩) (by simp) _) o1)
        have HN : Hid (k.length = j) := HKq
        have f10 := HBx.out.frozen 10
        have HBx := Lib.hid (HBx.out.set10 (.slice a' j c'))
        have HZx := Lib.hid (HZx.out.far (a := ⟨B, 10, none⟩) (by simp) (.slice a' j c'))
        have HOx := Lib.hid (ownsRow_setCell_below HOx.out (a := ⟨B, 10, none⟩) (by simp) (.slice a' j c'))
        have hbx := Lib.hid (hbx.out.setCell (p := ⟨B, 10, none⟩) (by simp) (.slice a' j c'))
        have c1 := HBx.out.at.c1
        simp only [Op11.put] at HBx c1
        cases hc : L.leq us o1 level with
        | true =>
          have HTR : Hid (L.trim (fun a => L.leq us a level) ⟨16, o1, o2, o3, o4, o5, o6, o7, o8, o9, k⟩ = ⟨16, o1, o2, o3, o4, o5, o6, o7, o8, o9, L.keeps (fun a => L.leq us a level) k⟩) := by unfold Hid; rw [HTRg.out, hc]; rfl
          rw [hc] at s
          clear hc HTRg
          go_wp2_with fail
          refine s.out.mono ?_
          rintro e w3 ⟨rfl, rfl⟩
          clear s c1 c10' f10
          obtain ⟨⟨⟨z0, a0⟩, b0⟩, ⟨⟨z1, a1⟩, b1⟩, ⟨⟨z2, a2⟩, b2⟩, ⟨⟨z3, a3⟩, b3⟩, ⟨⟨z4, a4⟩, b4⟩, ⟨⟨z5, a5⟩, b5⟩, ⟨⟨z6, a6⟩, b6⟩, ⟨⟨z7, a7⟩, b7⟩, ⟨⟨z8, a8⟩, b8⟩, ⟨⟨z9, a9⟩, b9⟩, ⟨⟨z10, a10⟩, b10⟩, hq11⟩ := HZx.out.all ⟨16, o1, o2, o3, o4, o5, o6, o7, o8, o9, .slice a' j c'⟩
          have HQ11 := Lib.hid hq11
          have HO11 := Lib.hid (own_opw HOx.out (by omega : B + 1 < B + 2) ⟨16, o1, o2, o3, o4, o5, o6, o7, o8, o9, .slice a' j c'⟩)
          have hb11 := Lib.hid (below_opw hbx.out (by omega : B ≤ B + 1) ⟨16, o1, o2, o3, o4, o5, o6, o7, o8, o9, .slice a' j c'⟩)
          obtain ⟨p0, p1, p2, p3, p4, p5, p6, p7, p8, p9, p10⟩ := HBx.out.at
          clear HZx HOx hbx HBx hq11
          go_wp2_with fail
          refine bodyPost_ret (rtrim_results _ _ (B + 1) ⟨16, o1, o2, o3, o4, o5, o6, o7, o8, o9, .slice a' j c'⟩ rfl HQ11.out) rfl ?_
          exact ⟨.slice a' j c', by rw [HTR.out], .inr (by rw [HB.out, HTR.out]; exact ownsRow.base (by simpa [L.keeps_length, HN.out] using HO11.out) (by omega)), by rw [HB.out]; exact hb11.out⟩
        | false =>
          have HTR : Hid (L.trim (fun a => L.leq us a level) ⟨16, o1, o2, o3, o4, o5, o6, o7, o8, o9, k⟩ = ⟨16, 0, 0, o3, o4, o5, o6, o7, o8, 0, L.keeps (fun a => L.leq us a level) k⟩) := by unfold Hid; rw [HTRg.out, hc]; rfl
          rw [hc] at s
          clear hc HTRg
          go_wp2_with fail
          refine s.out.mono ?_
          rintro e w3 ⟨rfl, rfl⟩
          clear s c1 c10' f10
          have HB1 := Lib.hid (HBx.out.set1 0)
          have HB2 := Lib.hid (HB1.out.set2 0)
          have HB3 := Lib.hid (HB2.out.set9 0)
          have g1 := HBx.out.at.c1
          have g2 := HB1.out.at.c2
          have g9 := HB2.out.at.c9
          have h1 := HBx.out.frozen 1
          have h2 := HB1.out.frozen 2
          have h9 := HB2.out.frozen 9
          simp only [] at HB1 HB2 HB3 g2 g9
          have HZx := Lib.hid (((HZx.out.far (a := ⟨B, 1, none⟩) (by simp) (.int .i64 0)).far (a := ⟨B, 2, none⟩) (by simp) (.int .i64 0)).far (a := ⟨B, 9, none⟩) (by simp) (.int .i64 0))
          have HOx := Lib.hid (ownsRow_setCell_below (ownsRow_setCell_below (ownsRow_setCell_below HOx.out (a := ⟨B, 1, none⟩) (by simp) (.int .i64 0)) (a := ⟨B, 2, none⟩) (by simp) (.int .i64 0)) (a := ⟨B, 9, none⟩) (by simp) (.int .i64 0))
          have hbx := Lib.hid (((hbx.out.setCell (p := ⟨B, 1, none⟩) (by simp) (.int .i64 0)).setCell (p := ⟨B, 2, none⟩) (by simp) (.int .i64 0)).setCell (p := ⟨B, 9, none⟩) (by simp) (.int .i64 0))
          have HBx := HB3
          clear HB1 HB2 HB3
          obtain ⟨⟨⟨z0, a0⟩, b0⟩, ⟨⟨z1, a1⟩, b1⟩, ⟨⟨z2, a2⟩, b2⟩, ⟨⟨z3, a3⟩, b3⟩, ⟨⟨z4, a4⟩, b4⟩, ⟨⟨z5, a5⟩, b5⟩, ⟨⟨z6, a6⟩, b6⟩, ⟨⟨z7, a7⟩, b7⟩, ⟨⟨z8, a8⟩, b8⟩, ⟨⟨z9, a9⟩, b9⟩, ⟨⟨z10, a10⟩, b10⟩, hq11⟩ := HZx.out.all ⟨16, 0, 0, o3, o4, o5, o6, o7, o8, 0, .slice a' j c'⟩
          have HQ11 := Lib.hid hq11
          have HO11 := Lib.hid (own_opw HOx.out (by omega : B + 1 < B + 2) ⟨16, 0, 0, o3, o4, o5, o6, o7, o8, 0, .slice a' j c'⟩)
          have hb11 := Lib.hid (below_opw hbx.out (by omega : B ≤ B + 1) ⟨16, 0, 0, o3, o4, o5, o6, o7, o8, 0, .slice a' j c'⟩)
          obtain ⟨p0, p1, p2, p3, p4, p5, p6, p7, p8, p9, p10⟩ := HBx.out.at
          clear HZx HOx hbx HBx hq11
          go_wp2_with fail
          refine bodyPost_ret (rtrim_results _ _ (B + 1) ⟨16, 0, 0, o3, o4, o5, o6, o7, o8, 0, .slice a' j c'⟩ rfl HQ11.out) rfl ?_
          exact ⟨.slice a' j c', by rw [HTR.out], .inr (by rw [HB.out, HTR.out]; exact ownsRow.base (by simpa [L.keeps_length, HN.out] using HO11.out) (by omega)), by rw [HB.out]; exact hb11.out⟩
  · have HT := Lib.hid (L.trim_kept (p := (fun a => L.leq us a level)) h16)
    obtain ⟨o0, o1, o2, o3, o4, o5, o6, o7, o8, o9, k⟩ := o
    simp only [] at h16 hlen
    have d0 : (o0 != 16) = true := by simp [h16]
    generalize hq : k.length = uq at *
    have hb : Below w.heap.size w ((w.alloc (.cells #[.int .i64 o0, .int .i64 o1, .int .i64 o2, .int .i64 o3, .string (str o4), .string (str o5), .string (str o6), .int .i64 o7, .int .i64 o8, .int .i64 o9, .slice ua uq uc] 34)).alloc (.cells #[.int .i64 o0, .int .i64 o1, .int .i64 o2, .int .i64 o3, .string (str o4), .string (str o5), .string (str o6), .int .i64 o7, .int .i64 o8, .int .i64 o9, .slice ua uq uc] 34)) := ((Below.refl _ _).alloc (Nat.le_refl _) _).alloc (by simp) _
    have hr : Bop ((w.alloc (.cells #[.int .i64 o0, .int .i64 o1, .int .i64 o2, .int .i64 o3, .string (str o4), .string (str o5), .string (str o6), .int .i64 o7, .int .i64 o8, .int .i64 o9, .slice ua uq uc] 34)).alloc (.cells #[.int .i64 o0, .int .i64 o1, .int .i64 o2, .int .i64 o3, .string (str o4), .string (str o5), .string (str o6), .int .i64 o7, .int .i64 o8, .int .i64 o9, .slice ua uq uc] 34)) (w.heap.size + 1) ⟨o0, o1, o2, o3, o4, o5, o6, o7, o8, o9, .slice ua uq uc⟩ := by
      have := heap_alloc_new (w.alloc (.cells #[.int .i64 o0, .int .i64 o1, .int .i64 o2, .int .i64 o3, .string (str o4), .string (str o5), .string (str o6), .int .i64 o7, .int .i64 o8, .int .i64 o9, .slice ua uq uc] 34)) (.cells #[.int .i64 o0, .int .i64 o1, .int .i64 o2, .int .i64 o3, .string (str o4), .string (str o5), .string (str o6), .int .i64 o7, .int .i64 o8, .int .i64 o9, .slice ua uq uc] 34)
      rw [World.size_alloc] at this
      exact this
    have HR := Lib.hid hr
    clear HQ HK h16 hq hr
    go_enter Tryd.func35, Tryd.ntmps35
    simp only [Op11.put]
    go_wp2_with fail
    refine bodyPost_ret (rtrim_results _ _ (w.heap.size + 1) ⟨o0, o1, o2, o3, o4, o5, o6, o7, o8, o9, .slice ua uq uc⟩ rfl HR.out) rfl ?_
    exact ⟨.slice ua uq uc, by rw [HT.out], .inl ⟨rfl, by rw [HT.out]⟩, hb⟩
end Go.Proofs.YtljpfocmnppjgaaDoor
