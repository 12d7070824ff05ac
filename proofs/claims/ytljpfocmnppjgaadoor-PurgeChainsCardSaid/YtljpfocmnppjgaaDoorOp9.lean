/- What the reference's Below returns. -/
import Derived.Test.YtljpfocmnppjgaaDoorOp8
namespace Go.Proofs.YtljpfocmnppjgaaDoor
open Go Go.RowKit

namespace L
def belows (p : Int → Bool) (l : List Opr) (i : Nat) : List Opr := (l.take i).flatMap (pick p)
theorem belows_step {p : Int → Bool} {l : List Opr} {i : Nat} (h : i < l.length) : belows p l (i + 1) = belows p l i ++ pick p l[i] := by
  unfold belows
  rw [List.take_succ_eq_append_getElem h, List.flatMap_append]
  simp
theorem pick_length (p : Int → Bool) (o : Opr) : (pick p o).length ≤ 1 := by unfold pick; split <;> simp
theorem belows_length (p : Int → Bool) : ∀ (l : List Opr) (i : Nat), (belows p l i).length ≤ i := by
  intro l i
  induction i with
  | zero => simp [belows]
  | succ i ih =>
    by_cases h : i < l.length
    · rw [belows_step h, List.length_append]
      have := pick_length p l[i]
      omega
    · have e : belows p l (i + 1) = belows p l i := by unfold belows; rw [List.take_of_length_le (by omega), List.take_of_length_le (by omega)]
      rw [e]; omega
theorem belows_all (p : Int → Bool) (l : List Opr) : belows p l l.length = l.flatMap (pick p) := by unfold belows; rw [List.take_length]
end L
/-- Where the trimmed operation's texts lie. -/
theorem kx_of {w0 w w' : World} {u u' : Value} {o t : Opr} (hk : Ks w0 u o.keep) (hs : w0.heap.size ≤ w.heap.size) (h : (u' = u ∧ t.keep = o.keep) ∨ w'.ownsRow w.heap.size 9 1 u' t.keep.length (strCells t.keep)) : Kx w0 w' w0.heap.size u' t.keep := by
  rcases h with ⟨rfl, h2⟩ | h
  · left; rw [h2]; exact hk
  · right; exact ownsRow.base h hs
/-- The few operations, each with few texts. -/
def Few (l : List Opr) : Prop := ∀ o ∈ l, o.keep.length ≤ 1000
theorem op_one {r : Rop} (h : ∃ a n c, r.keep = .slice a n c) : ∀ u ∈ opCells [r], u.oneCell' = true := op_oneCell fun r' hr => by rw [List.mem_singleton.1 hr]; exact h

set_option maxRecDepth 4000 in
set_option maxHeartbeats 4000000 in
theorem refBelow_any (vu vl : Value) (us : List Nat) (l : List Opr) (x : Int) (w : World) (hu : Us w vu us) (hU : U64s us) (hl : Os w vl l) (hlen : l.length ≤ 1000) (hfew : Few l) :
    Calls Tryd.prog 17 #[vu, vl, .int .i64 x] w fun e w' => ∃ v' ws, e = .returned v' ∧ Ob w w' w.heap.size v' (l.flatMap (L.pick fun a => L.leq us a x)) ws ∧ Below w.heap.size w w' := by
  obtain ⟨ao, cap, rfl, -⟩ := hl.shape
  have HL := Lib.hid hl
  have HS := Lib.hid (fun W (hW : Below w.heap.size w W) (o : Opr) (u : Value) => refSeen_any vu us o u x W (hu.below hW) hU)
  have HT := Lib.hid (fun W (hW : Below w.heap.size w W) (o : Opr) (u : Value) (hk : Ks W u o.keep) (hf : o.keep.length ≤ 100000) => refTrim_any vu us o u x W (hu.below hW) hU hk hf)
  have HE := Lib.hid (L.belows_all (fun a => L.leq us a x) l)
  have HBL := Lib.hid (fun i => L.belows_length (fun a => L.leq us a x) l i)
  have HBS : Hid (∀ i (h : i < l.length), L.belows (fun a => L.leq us a x) l (i + 1) = L.belows (fun a => L.leq us a x) l i ++ L.pick (fun a => L.leq us a x) l[i]) := fun i h => L.belows_step h
  have HPK : Hid (∀ o : Opr, L.pick (fun a => L.leq us a x) o = if L.seen (fun a => L.leq us a x) o then [L.trim (fun a => L.leq us a x) o] else []) := fun o => rfl
  have HFew := Lib.hid hfew
  clear hl hu hU hfew
  generalize (fun a => L.leq us a x) = p at *
  obtain ⟨n, hn⟩ : ∃ n, l.length = n := ⟨_, rfl⟩
  have HN := Lib.hid hn
  rw [hn] at HL hlen HE
  try rw [hn]
  clear hn
  go_enter Tryd.func17, Tryd.ntmps17
  go_wp2_with fail
  go_loopw [7, 8] (fun t i wr => ∃ (j : Nat) (ws : List Value), j ≤ n ∧ i = .int .i64 j ∧ Hid (Ob w wr w.heap.size t (L.belows p l j) ws) ∧ Hid (Below w.heap.size w wr)) (fun _ i _ => n - (intOf i).toNat)
  case atStart => exact ⟨0, [], by omega, rfl, Ob.nil _ _ _, Below.refl _ _⟩
  case round =>
    obtain ⟨j, ws, hj, rfl, HO, hbr⟩ := hrel
    by_cases hjn : j < n
    · have hjI : (j : Int) < (n : Int) := by omega
      have hj0 : (0 : Int) ≤ (j : Int) := by omega
      obtain ⟨b, off, u, rfl, hks, hat⟩ := HL.out.at (j := j) (by rw [HN.out]; exact hjn)
      obtain ⟨ua, uc, rfl, -⟩ := hks.shape
      have HST := HBS.out j (by rw [HN.out]; exact hjn)
      have hlk := HFew.out _ (List.getElem_mem (l := l) (n := j) (by rw [HN.out]; exact hjn))
      generalize (l[j]'(by rw [HN.out]; exact hjn)).keep.length = uq at *
      obtain ⟨o, ho⟩ : ∃ o, l[j]'(by rw [HN.out]; exact hjn) = o := ⟨_, rfl⟩
      rw [ho, HPK.out] at HST
      rw [ho] at hks hat
      have HST := Lib.hid HST
      have HKS := Lib.hid hks
      have HAT := Lib.hid hat
      have s := Lib.hid (HS.out wr hbr.out o (.slice ua uq uc))
      have hok : o.keep.length = uq := by
        obtain ⟨_, _, he, -⟩ := hks.shape
        cases he
        rfl
      have hok := Lib.hid hok
      clear ho hks hat
      obtain ⟨p0, p1, p2, p3, p4, p5, p6, p7, p8, p9, p10⟩ := HAT.out wr hbr.out
      simp only [Op11.put] at p0 p1 p2 p3 p4 p5 p6 p7 p8 p9 p10
      cases hc : L.seen p o with
      | true =>
        rw [hc] at s
        rw [hc, if_pos rfl] at HST
        clear hc
        go_wp2_with fail
        refine s.out.mono ?_
        rintro e w3 ⟨rfl, hx⟩
        have HO3 := Lib.hid (HO.out.below hx)
        have hb3 := Lib.hid (below_next hbr.out hx)
        clear hx s HO hbr p0 p1 p2 p3 p4 p5 p6 p7 p8 p9 p10
        obtain ⟨p0, p1, p2, p3, p4, p5, p6, p7, p8, p9, p10⟩ := HAT.out w3 hb3.out
        simp only [Op11.put] at p0 p1 p2 p3 p4 p5 p6 p7 p8 p9 p10
        have s := Lib.hid (HT.out w3 hb3.out o (.slice ua uq uc) (HKS.out.below hb3.out) (by rw [hok.out]; omega))
        go_wp2_with fail
        refine s.out.mono ?_
        rintro e w4 ⟨u', rfl, hu', hx⟩
        have hkx := kx_of HKS.out hb3.out.size hu'
        obtain ⟨ta, tn, tc, rfl⟩ := hkx.shape
        have HKX := Lib.hid hkx
        have HO4 := Lib.hid (HO3.out.below hx)
        have hb4 := Lib.hid (below_next hb3.out hx)
        generalize L.trim p o = t at *
        clear hx s hu' hkx HO3 hb3 p0 p1 p2 p3 p4 p5 p6 p7 p8 p9 p10
        have HO5 := Lib.hid (HO4.out.below ((Below.refl _ w4).alloc (Nat.le_refl _) (.cells #[.int .i64 t.kind, .int .i64 t.level, .int .i64 t.ses, .int .i64 t.snap, .string (str t.bucket), .string (str t.key), .string (str t.val), .int .i64 t.label, .int .i64 t.to, .int .i64 t.n, .slice ta tn tc] 34)))
        have HK5 := Lib.hid (HKX.out.below ((Below.refl _ w4).alloc (Nat.le_refl _) (.cells #[.int .i64 t.kind, .int .i64 t.level, .int .i64 t.ses, .int .i64 t.snap, .string (str t.bucket), .string (str t.key), .string (str t.val), .int .i64 t.label, .int .i64 t.to, .int .i64 t.n, .slice ta tn tc] 34)))
        have HS5 : Hid (Sl (w4.alloc (.cells #[.int .i64 t.kind, .int .i64 t.level, .int .i64 t.ses, .int .i64 t.snap, .string (str t.bucket), .string (str t.key), .string (str t.val), .int .i64 t.label, .int .i64 t.to, .int .i64 t.n, .slice ta tn tc] 34)) 11 1 (.slice (some ⟨w4.heap.size, 0, none⟩) 1 1) (opCells [t.put (.slice ta tn tc)])) := Sl.lit w4 34 11 1 #[.int .i64 t.kind, .int .i64 t.level, .int .i64 t.ses, .int .i64 t.snap, .string (str t.bucket), .string (str t.key), .string (str t.val), .int .i64 t.label, .int .i64 t.to, .int .i64 t.n, .slice ta tn tc] (0, 0) rfl (by decide)
        have hb5 : Hid (Below w.heap.size w (w4.alloc (.cells #[.int .i64 t.kind, .int .i64 t.level, .int .i64 t.ses, .int .i64 t.snap, .string (str t.bucket), .string (str t.key), .string (str t.val), .int .i64 t.label, .int .i64 t.to, .int .i64 t.n, .slice ta tn tc] 34))) := hb4.out.alloc hb4.out.size _
        have hll := HBL.out j
        obtain ⟨m, hm⟩ : ∃ m, (L.belows p l j).length = m := ⟨_, rfl⟩
        have hown := HO5.out.own
        rw [hm] at hown hll
        have HOW := Lib.hid hown
        have HM := Lib.hid hm
        clear HO4 HKX hb4 hown hm
        simp only [Op11.put]
        go_wp2_with (at_builtin; go_must (refine wpList_append_sl rfl _ _ 28 rfl w.heap.size 34 _ 11 128 Tryd.underlying28 infoOp rfl (by decide) _ _ _ rfl HOW.out _ 1 (opCells [t.put (.slice ta tn tc)]) rfl HS5.out (op_one ⟨_, _, _, rfl⟩) (by unfold maxLen; omega) (by omega) hb5.out.size ?_))
        intro v7 w7 hown7 hgrow hnn
        clear hnn
        have HO7 : Hid (Ob w w7 w.heap.size v7 (L.belows p l (j + 1)) (ws ++ [.slice ta tn tc])) := by
          unfold Hid
          rw [HST.out]
          refine HO5.out.push HK5.out hgrow ?_
          rw [HM.out]
          exact hown7
        have hb7 : Hid (Below w.heap.size w w7) := hb5.out.grown hgrow hb5.out.size (ownBlock_ge HOW.out)
        clear hown7 hgrow HO5 HK5 HS5 hb5 HOW HM
        go_wp2_with fail
        go_roundw
        case rel => exact ⟨j + 1, ws ++ [.slice ta tn tc], by omega, by go_num, HO7, hb7⟩
        case measure => simp [intOf]; omega
      | false =>
        rw [hc] at s
        rw [hc, if_neg (by decide), List.append_nil] at HST
        clear hc
        go_wp2_with fail
        refine s.out.mono ?_
        rintro e w3 ⟨rfl, hx⟩
        have HO3 : Hid (Ob w w3 w.heap.size u7 (L.belows p l (j + 1)) ws) := by
          have := HO.out.below hx
          unfold Hid
          rw [HST.out]
          exact this
        have hb3 := Lib.hid (below_next hbr.out hx)
        clear hx s HO hbr p0 p1 p2 p3 p4 p5 p6 p7 p8 p9 p10
        go_wp2_with fail
        go_roundw
        case rel => exact ⟨j + 1, ws, by omega, by go_num, HO3, hb3⟩
        case measure => simp [intOf]; omega
    · obtain rfl : j = n := by omega
      rw [HE.out] at HO
      go_wp2_with fail
      go_ret
      exact ⟨_, _, rfl, HO.out, hbr.out⟩
end Go.Proofs.YtljpfocmnppjgaaDoor
