/- What purge.Purge returns. The document's example holds: awake returns true. -/
import Derived.Test.YtmapmeacjpoaoaaDoorPm08
namespace Go.Proofs.YtmapmeacjpoaoaaDoor
open Go Go.RowKit

namespace L
def purgeTo (us : List Nat) (gs : List Gr) (d : Nat) (l : List Opr) (i : Nat) : List Opr := (List.range i).flatMap fun j => match l[j]? with | some o => pick (inn (cur us gs d (l.drop j))) o | none => []
def purges (us : List Nat) (gs : List Gr) (d : Nat) (l : List Opr) : List Opr := purgeTo us gs d l l.length
theorem purgeTo_step {us : List Nat} {gs : List Gr} {d : Nat} {l : List Opr} {i : Nat} (h : i < l.length) : purgeTo us gs d l (i + 1) = purgeTo us gs d l i ++ pick (inn (cur us gs d (l.drop i))) l[i] := by
  unfold purgeTo
  rw [List.range_succ, List.flatMap_append, List.flatMap_singleton, List.getElem?_eq_getElem h]
theorem purgeTo_length (us : List Nat) (gs : List Gr) (d : Nat) (l : List Opr) : ∀ i, (purgeTo us gs d l i).length ≤ i := by
  intro i
  induction i with
  | zero => simp [purgeTo]
  | succ i ih =>
    by_cases h : i < l.length
    · rw [purgeTo_step h, List.length_append]
      have := pick_length (inn (cur us gs d (l.drop i))) l[i]
      omega
    · have e : purgeTo us gs d l (i + 1) = purgeTo us gs d l i := by
        unfold purgeTo
        rw [List.range_succ, List.flatMap_append, List.flatMap_singleton, List.getElem?_eq_none (by omega)]
        simp
      rw [e]; omega
def onesTo (s k : Nat) : List Nat := (List.range 64).map fun x => if x ∈ (bitsOf s).take k then 1 else 0
def ones (s : Nat) : List Nat := onesTo s (bitsOf s).length
theorem onesTo_length (s k : Nat) : (onesTo s k).length = 64 := by simp [onesTo]
theorem onesTo_zero (s : Nat) : onesTo s 0 = List.replicate 64 0 := by
  unfold onesTo
  rw [List.eq_replicate_iff]
  refine ⟨by simp, fun x hx => ?_⟩
  obtain ⟨y, -, rfl⟩ := List.mem_map.1 hx
  simp
theorem onesTo_step {s k : Nat} (hk : k < (bitsOf s).length) : (onesTo s k).set (bitsOf s)[k] 1 = onesTo s (k + 1) := by
  unfold onesTo
  apply List.ext_getElem
  · simp
  · intro i h1 h2
    rw [List.getElem_set]
    simp only [List.getElem_map, List.getElem_range]
    rw [List.take_succ_eq_append_getElem hk]
    by_cases e : (bitsOf s)[k] = i
    · simp [e]
    · have e' : ¬ i = (bitsOf s)[k] := fun h => e h.symm
      have hm : (i ∈ List.take k (bitsOf s) ++ [(bitsOf s)[k]]) ↔ i ∈ List.take k (bitsOf s) := by
        rw [List.mem_append, List.mem_singleton]
        exact ⟨fun h => h.resolve_right e', .inl⟩
      rw [if_neg e]
      simp only [hm]
theorem ones_at {s a : Nat} (hs : s < 2 ^ 64) (ha : a < 64) : (ones s).getD a 0 = if s.testBit a then 1 else 0 := by
  unfold ones onesTo
  rw [List.take_length, List.getD_eq_getElem?_getD, List.getElem?_map, List.getElem?_range ha]
  simp only [Option.map_some, Option.getD_some]
  by_cases h : s.testBit a = true
  · rw [if_pos h, if_pos ((mem_bitsOf hs).2 h)]
  · rw [if_neg h, if_neg (fun hm => h ((mem_bitsOf hs).1 hm))]
theorem ones_u64 (s : Nat) : U64s (ones s) := fun x hx => by
  obtain ⟨y, -, rfl⟩ := List.mem_map.1 hx
  split <;> decide
theorem leq_ones {s : Nat} (hs : s < 2 ^ 64) (a : Int) : leq (ones s) a 0 = inn s a := by
  have hl : (ones s).length = 64 := onesTo_length _ _
  unfold leq lab inn
  rw [hl]
  by_cases h0 : 0 ≤ a
  · by_cases h1 : a < 64
    · obtain ⟨k, rfl⟩ : ∃ k : Nat, a = (k : Int) := ⟨a.toNat, by omega⟩
      have hk : k < 64 := by omega
      rw [Int.toNat_natCast, ones_at hs hk]
      have d1 : decide ((k : Int) < ((64 : Nat) : Int)) = true := by simp; omega
      have d2 : decide ((k : Int) < 64) = true := by simp; omega
      have d3 : decide ((0 : Int) ≤ (k : Int)) = true := by simp
      rw [d1, d2, d3]
      cases hb : s.testBit k <;> simp
    · have d1 : decide (a < ((64 : Nat) : Int)) = false := by simp; omega
      have d2 : decide (a < 64) = false := by simp; omega
      rw [d1, d2]
      simp
  · have d1 : decide ((0 : Int) ≤ a) = false := by simp; omega
    rw [d1]
    simp
end L

theorem intCells_at {w : World} {base n g cap : Nat} {l : List Nat} (h : w.ownsRow base 3 1 (.slice (some ⟨g, 0, none⟩) n cap) n (intCells l)) {k : Nat} (hk : k < l.length) : w.cell? ⟨g, k, none⟩ = some (.int .i64 (l[k] : Int)) := by
  have hl := h.1
  unfold intCells at hl
  rw [List.length_map, Nat.mul_one] at hl
  rw [h.cellAt k (by omega)]
  simp [intCells, hk]
theorem own_shape1 {w : World} {base t n : Nat} {v : Value} {cs : List Value} (h : w.ownsRow base t 1 v n cs) : ∃ a c, v = .slice a n c ∧ (0 < n → ∃ g, a = some ⟨g, 0, none⟩ ∧ base ≤ g ∧ g < w.heap.size) := by
  rcases h.2 with ⟨e, h0⟩ | ⟨g, c, cur, e, hg, hh, -⟩
  · subst h0
    exact ⟨_, _, e, fun h => by omega⟩
  · exact ⟨_, _, e, fun _ => ⟨g, rfl, hg, (Array.getElem?_eq_some_iff.1 hh).1⟩⟩

theorem kx_at {w0 w w' : World} {base : Nat} {u u' : Value} {o t : Opr} (hk : Ks w0 u o.keep) (hs : base ≤ w.heap.size) (h : (u' = u ∧ t.keep = o.keep) ∨ w'.ownsRow w.heap.size 9 1 u' t.keep.length (strCells t.keep)) : Kx w0 w' base u' t.keep := by
  rcases h with ⟨rfl, h2⟩ | h
  · left; rw [h2]; exact hk
  · right; exact ownsRow.base h hs

set_option maxRecDepth 4000 in
set_option maxHeartbeats 8000000 in
theorem purge_any (vn vu vq vg vl : Value) (us : List Nat) (gs : List Gr) (l : List Opr) (level : Int) (w : World) (hu : Us w vu us) (hU : U64s us) (hg : Gs w vg gs) (hl : Os w vl l) (hlen : l.length ≤ 1000) (hfew : Few l) (ht : DTab w) :
    Calls Tryd.prog 7 #[cfv vn vu vq vg, vl, .int .i64 level] w fun e w' => ∃ v' ws, e = .returned v' ∧ Ob w w' w.heap.size v' (L.purges us gs (L.down us level) l) ws ∧ Below w.heap.size w w' := by
  obtain ⟨ao, cap, rfl, -⟩ := hl.shape
  have HL := Lib.hid hl
  have HSets := Lib.hid (fun W (hW : Below w.heap.size w W) => sets_any vn vu vq vg (.slice ao l.length cap) us gs l level W (hu.below hW) hU (Three.Ss.below hg hW) (hl.below hW) (by omega))
  have HTb := Lib.hid ht
  have hdlt := L.down_lt us level
  have HCb := Lib.hid (Cb.new w vn vu vq vg)
  have hb1 : Hid (Below w.heap.size w (w.alloc (.cells #[vn, vu, vq, vg] 27))) := (Below.refl _ _).alloc (Nat.le_refl _) _
  have HE : Hid (L.purgeTo us gs (L.down us level) l l.length = L.purges us gs (L.down us level) l) := rfl
  have HBL := Lib.hid (fun i => L.purgeTo_length us gs (L.down us level) l i)
  have HBS : Hid (∀ i (h : i < l.length), L.purgeTo us gs (L.down us level) l (i + 1) = L.purgeTo us gs (L.down us level) l i ++ L.pick (L.inn (L.cur us gs (L.down us level) (l.drop i))) l[i]) := fun i h => L.purgeTo_step h
  have HSL : Hid ((L.sets us gs (L.down us level) l).length = l.length) := L.sets_length _ _ _ _
  have HCL : Hid (∀ i, L.cur us gs (L.down us level) (l.drop i) < 18446744073709551616) := fun i => L.cur_lt hdlt _
  have HPK : Hid (∀ (p : Int → Bool) (o : Opr), L.pick p o = if L.seen p o then [L.trim p o] else []) := fun p o => rfl
  have HFew := Lib.hid hfew
  clear hl hu hU hg hfew ht hdlt
  obtain ⟨d, hd⟩ : ∃ d, L.down us level = d := ⟨_, rfl⟩
  have HDD := Lib.hid hd
  rw [hd] at HSets HE HBL HBS HSL HCL
  clear hd
  have HSA : Hid (∀ i (_ : i < l.length), (L.sets us gs d l).getD i 0 = L.cur us gs d (l.drop i)) := fun i h => by
    rw [List.getD_eq_getElem?_getD, List.getElem?_eq_getElem (by rw [L.sets_length]; exact h), Option.getD_some, L.sets_at]
  obtain ⟨n, hn⟩ : ∃ n, l.length = n := ⟨_, rfl⟩
  have HN := Lib.hid hn
  rw [hn] at HL hlen HE HSets HSL
  try rw [hn]
  clear hn
  have HS1 := HSets.out _ hb1.out
  have HS1 := Lib.hid HS1
  go_enter Tryd.func7, Tryd.ntmps7
  have q0 := HCb.out.cell.1
  have q1 := HCb.out.cell.2.1
  have q2 := HCb.out.cell.2.2.1
  have q3 := HCb.out.cell.2.2.2
  go_wp2_with fail
  refine HS1.out.mono ?_
  rintro e w2 ⟨vs, rfl, hos, hx⟩
  have HV : Hid (Us w2 vs (L.sets us gs d l)) := by
    unfold Hid Us
    rw [HSL.out]
    exact Sl.of_owns hos
  have hb2 := Lib.hid (below_next hb1.out hx)
  obtain ⟨sa, sc, rfl, -⟩ := HV.out.shape
  rw [HSL.out] at HV ⊢
  clear hos hx hb1 HS1 HSets HCb q0 q1 q2 q3
  go_wp2_with fail
  go_loopw [8, 20] (fun t i wr => ∃ (j : Nat) (ws : List Value), j ≤ n ∧ i = .int .i64 j ∧ Hid (Ob w wr w2.heap.size t (L.purgeTo us gs d l j) ws) ∧ Hid (Below w2.heap.size w2 wr)) (fun _ i _ => n - (intOf i).toNat)
  case atStart => exact ⟨0, [], by omega, rfl, Ob.nil _ _ _, Below.refl _ _⟩
  case round =>
    obtain ⟨j, ws, hj, rfl, HO, hbr2⟩ := hrel
    have hbr := Lib.hid (below_next hb2.out hbr2.out)
    by_cases hjn : j < n
    · have hjI : (j : Int) < (n : Int) := by omega
      have hj0 : (0 : Int) ≤ (j : Int) := by omega
      obtain ⟨b, off, u, rfl, hks, hat⟩ := HL.out.at (j := j) (by rw [HN.out]; exact hjn)
      obtain ⟨ua, uc, rfl, -⟩ := hks.shape
      have HST := HBS.out j (by rw [HN.out]; exact hjn)
      have hlk := HFew.out _ (List.getElem_mem (l := l) (n := j) (by rw [HN.out]; exact hjn))
      generalize (l[j]'(by rw [HN.out]; exact hjn)).keep.length = uq at *
      obtain ⟨o, ho⟩ : ∃ o, l[j]'(by rw [HN.out]; exact hjn) = o := ⟨_, rfl⟩
      rw [ho, HPK.out] at HST
      rw [ho] at hks hat
      have hsl := HCL.out j
      obtain ⟨b9, o9, rfl, hsc⟩ := (HV.out.below hbr2.out).at (j := j) (by rw [HSL.out]; exact hjn)
      have hsj := hsc j (by rw [HSL.out]; exact hjn)
      rw [HSA.out j (by rw [HN.out]; exact hjn)] at hsj
      obtain ⟨s, hs⟩ : ∃ s, L.cur us gs d (l.drop j) = s := ⟨_, rfl⟩
      rw [hs] at HST hsl hsj
      have HSJ : Hid (∀ W, Below w2.heap.size w2 W → W.cell? ⟨b9, o9 + j, none⟩ = some (.int .u64 (s : Int))) := fun W hW => by
        obtain ⟨b', o', e, hc⟩ := (HV.out.below hW).at (j := j) (by rw [HSL.out]; exact hjn)
        obtain ⟨rfl, rfl⟩ : b9 = b' ∧ o9 = o' := by simpa using e
        have := hc j (by rw [HSL.out]; exact hjn)
        rw [HSA.out j (by rw [HN.out]; exact hjn), hs] at this
        exact this
      have HST := Lib.hid HST
      have HKS := Lib.hid hks
      have HAT := Lib.hid hat
      have hok : o.keep.length = uq := by
        obtain ⟨_, _, he, -⟩ := hks.shape
        cases he
        rfl
      have hok := Lib.hid hok
      clear ho hks hat hs hsc hsj
      obtain ⟨p0, p1, p2, p3, p4, p5, p6, p7, p8, p9, p10⟩ := HAT.out wr hbr.out
      simp only [Op11.put] at p0 p1 p2 p3 p4 p5 p6 p7 p8 p9 p10
      obtain ⟨q, hq⟩ : ∃ q, wr.heap.size = q := ⟨_, rfl⟩
      have hHQ : Bop (wr.alloc (.cells #[.int .i64 o.kind, .int .i64 o.level, .int .i64 o.ses, .int .i64 o.snap, .string (str o.bucket), .string (str o.key), .string (str o.val), .int .i64 o.label, .int .i64 o.to, .int .i64 o.n, .slice ua uq uc] 33)) wr.heap.size (o.put (.slice ua uq uc)) := heap_alloc_new wr _
      have hws : (wr.alloc (.cells #[.int .i64 o.kind, .int .i64 o.level, .int .i64 o.ses, .int .i64 o.snap, .string (str o.bucket), .string (str o.key), .string (str o.val), .int .i64 o.label, .int .i64 o.to, .int .i64 o.n, .slice ua uq uc] 33)).heap.size = q + 1 := by simp [hq]
      have hHO : Ob w (wr.alloc (.cells #[.int .i64 o.kind, .int .i64 o.level, .int .i64 o.ses, .int .i64 o.snap, .string (str o.bucket), .string (str o.key), .string (str o.val), .int .i64 o.label, .int .i64 o.to, .int .i64 o.n, .slice ua uq uc] 33)) w2.heap.size u8 (L.purgeTo us gs d l j) ws := HO.out.below ((Below.refl _ wr).alloc (Nat.le_refl _) _)
      have hb3 : Below w2.heap.size w2 (wr.alloc (.cells #[.int .i64 o.kind, .int .i64 o.level, .int .i64 o.ses, .int .i64 o.snap, .string (str o.bucket), .string (str o.key), .string (str o.val), .int .i64 o.label, .int .i64 o.to, .int .i64 o.n, .slice ua uq uc] 33)) := hbr2.out.alloc hbr2.out.size _
      rw [hq] at hHQ
      obtain ⟨w3, hw3⟩ : ∃ w3, wr.alloc (.cells #[.int .i64 o.kind, .int .i64 o.level, .int .i64 o.ses, .int .i64 o.snap, .string (str o.bucket), .string (str o.key), .string (str o.val), .int .i64 o.label, .int .i64 o.to, .int .i64 o.n, .slice ua uq uc] 33) = w3 := ⟨_, rfl⟩
      rw [hw3] at hHQ hws hHO hb3
      have HBq := Lib.hid hHQ
      have HO3 := Lib.hid hHO
      have hb3 := Lib.hid hb3
      clear hHQ hHO HO hbr hbr2
      go_wp2_with (at_make; go_must (refine wpList_make_sl rfl _ _ 23 rfl (q + 1) 53 (.int .u64 0) 1 8 Tryd.underlying23 infoU64 .i64 .i64 64 rfl rfl (by decide) (by decide) (by rw [hws]; exact Nat.le_refl _) ?_))
      intro w4 hown hgrow
      have hB4 : Hid (Below (q + 1) w3 w4) := (Below.refl _ _).grown hgrow (by omega) (fun k hk => by cases hk)
      have HUp : Hid (w4.ownsRow (q + 1) 53 1 (.slice (some ⟨q + 1, 0, none⟩) 64 64) 64 (u64Cells (L.onesTo s 0))) := by
        rw [toList_madeCells_one] at hown
        unfold Hid
        rw [L.onesTo_zero, u64Cells_zeros]
        simpa using hown
      have HWS := Lib.hid hws
      have hlt4 : q + 1 < w4.heap.size := (hown.lt _ rfl).2
      have hb4 : Hid (Below w2.heap.size w2 w4) := below_next hb3.out (by rw [hws]; exact hB4.out)
      clear hown hgrow hw3 p0 p1 p2 p3 p4 p5 p6 p7 p8 p9 p10 hq hws
      have hsj := HSJ.out w4 hb4.out
      have st := Lib.hid (list_any s hsl w4 (HTb.out.below (below_next hb2.out hb4.out)))
      go_wp2_with fail
      refine st.out.mono ?_
      rintro e w5 ⟨vb, rfl, hob, hx⟩
      obtain ⟨ba, bc, rfl, hbsh⟩ := own_shape1 hob
      have HBs := Lib.hid hob
      have HSh := Lib.hid hbsh
      have hB5 : Hid (Below (q + 1) w3 w5) := hB4.out.trans (hx.mono (by omega))
      have HUp5 := Lib.hid (ownsRow.below HUp.out hx)
      clear hx hob hbsh st hB4 hb4 HUp hsj
      obtain ⟨c, hcn⟩ : ∃ c, (bitsOf s).length = c := ⟨_, rfl⟩
      have hc64 : c ≤ 64 := by rw [← hcn]; exact bitsOf_length s
      rw [hcn] at HBs HSh ⊢
      have HCN := Lib.hid hcn
      clear hcn
      go_wp2_with fail
      go_loopw [32] (fun i wr => ∃ k : Nat, k ≤ c ∧ i = .int .i64 k ∧ Hid (wr.ownsRow (q + 1) 53 1 (.slice (some ⟨q + 1, 0, none⟩) 64 64) 64 (u64Cells (L.onesTo s k))) ∧ Hid (wr.ownsRow w4.heap.size 3 1 (.slice ba c bc) c (intCells (bitsOf s))) ∧ Hid (Below (q + 1) w3 wr)) (fun i _ => c - (intOf i).toNat)
      case atStart => exact ⟨0, by omega, rfl, HUp5, HBs, hB5⟩
      case round =>
        clear HUp5 HBs hB5
        obtain ⟨k, hk, rfl, HUp, HBs, hB5⟩ := hrel
        by_cases hkc : k < c
        · have hkI : (k : Int) < (c : Int) := by omega
          have hk0 : (0 : Int) ≤ (k : Int) := by omega
          obtain ⟨g, rfl, hg1, hg2⟩ := HSh.out (by omega)
          have hcell := intCells_at HBs.out (k := k) (by rw [HCN.out]; exact hkc)
          have hx64 : (bitsOf s)[k]'(by rw [HCN.out]; exact hkc) < 64 := bitsOf_lt (List.getElem_mem _)
          have hstp := L.onesTo_step (s := s) (k := k) (by rw [HCN.out]; exact hkc)
          obtain ⟨x, hxx⟩ : ∃ x, (bitsOf s)[k]'(by rw [HCN.out]; exact hkc) = x := ⟨_, rfl⟩
          rw [hxx] at hcell hx64 hstp
          have hst := own_store1 HUp.out x 1
          rw [hstp] at hst
          obtain ⟨v0, k0, k1⟩ := own_cell1 HUp.out hx64
          have HU2 : Hid ((wr.setCell ⟨q + 1, x, none⟩ (.int .u64 1)).ownsRow (q + 1) 53 1 (.slice (some ⟨q + 1, 0, none⟩) 64 64) 64 (u64Cells (L.onesTo s (k + 1)))) := hst
          have HB2 : Hid ((wr.setCell ⟨q + 1, x, none⟩ (.int .u64 1)).ownsRow w4.heap.size 3 1 (.slice (some ⟨g, 0, none⟩) c bc) c (intCells (bitsOf s))) := ownsRow_setCell_below HBs.out (a := ⟨q + 1, x, none⟩) hlt4 _
          have hB6 : Hid (Below (q + 1) w3 (wr.setCell ⟨q + 1, x, none⟩ (.int .u64 1))) := hB5.out.setCell (p := ⟨q + 1, x, none⟩) (by simp) _
          have hxI : (x : Int) < 64 := by omega
          have hx0 : (0 : Int) ≤ (x : Int) := by omega
          clear hxx hstp hst HUp HBs hB5
          go_wp2_with fail
          go_roundw
          case rel => exact ⟨k + 1, by omega, by go_num, HU2, HB2, hB6⟩
          case measure => simp [intOf]; omega
        · obtain rfl : k = c := by omega
          have HUF : Hid (Us wr (.slice (some ⟨q + 1, 0, none⟩) 64 64) (L.ones s)) := by
            have h1 := Sl.of_owns HUp.out
            unfold Hid Us L.ones
            rw [L.onesTo_length, HCN.out]
            exact h1
          have HO4 : Hid (Ob w wr w2.heap.size u8 (L.purgeTo us gs d l j) ws) := HO3.out.below (by rw [HWS.out]; exact hB5.out)
          have HB4 : Hid (Bop wr q (o.put (.slice ua uq uc))) := HBq.out.below hB5.out (by omega)
          have hb4 : Hid (Below w2.heap.size w2 wr) := below_next hb3.out (by rw [HWS.out]; exact hB5.out)
          have HSn : Hid (∀ W, Below wr.heap.size wr W → Calls Tryd.prog 19 #[.slice (some ⟨q + 1, 0, none⟩) 64 64, opv (o.put (.slice ua uq uc)), .int .i64 0] W fun e w' => e = .returned (.bool (L.seen (L.inn s) o)) ∧ Below W.heap.size W w') := fun W hW => by
            have := seen_any (.slice (some ⟨q + 1, 0, none⟩) 64 64) (L.ones s) o (.slice ua uq uc) 0 W (HUF.out.below hW) (L.ones_u64 s)
            rw [show (fun a => L.leq (L.ones s) a 0) = L.inn s from funext fun a => L.leq_ones hsl a] at this
            exact this
          have HTr : Hid (∀ W, Below wr.heap.size wr W → Calls Tryd.prog 20 #[.slice (some ⟨q + 1, 0, none⟩) 64 64, opv (o.put (.slice ua uq uc)), .int .i64 0] W fun e w' => ∃ u', e = .returned (opv ((L.trim (L.inn s) o).put u')) ∧ ((u' = .slice ua uq uc ∧ (L.trim (L.inn s) o).keep = o.keep) ∨ w'.ownsRow W.heap.size 9 1 u' (L.trim (L.inn s) o).keep.length (strCells (L.trim (L.inn s) o).keep)) ∧ Below W.heap.size W w') := fun W hW => by
            have := trim_any (.slice (some ⟨q + 1, 0, none⟩) 64 64) (L.ones s) o (.slice ua uq uc) 0 W (HUF.out.below hW) (L.ones_u64 s) (HKS.out.below (below_next hb2.out (below_next hb4.out hW))) (by rw [hok.out]; omega)
            rw [show (fun a => L.leq (L.ones s) a 0) = L.inn s from funext fun a => L.leq_ones hsl a] at this
            exact this
          clear HUp HBs hB5 HO3 HBq hb3 HUF HSJ
          generalize L.inn s = p at *
          obtain ⟨p0, p1, p2, p3, p4, p5, p6, p7, p8, p9, p10⟩ := HB4.out.at
          simp only [Op11.put] at p0 p1 p2 p3 p4 p5 p6 p7 p8 p9 p10
          have st := Lib.hid (HSn.out wr (Below.refl _ _))
          cases hc : L.seen p o with
          | true =>
            rw [hc] at st
            rw [hc, if_pos rfl] at HST
            clear hc HSn
            go_wp2_with fail
            refine st.out.mono ?_
            rintro e w6 ⟨rfl, hx⟩
            have HO6 := Lib.hid (HO4.out.below hx)
            have HB6 := Lib.hid (HB4.out.later hx)
            have hb6 := Lib.hid (below_next hb4.out hx)
            have st := Lib.hid (HTr.out w6 hx)
            clear hx HO4 HB4 hb4 HTr p0 p1 p2 p3 p4 p5 p6 p7 p8 p9 p10
            obtain ⟨p0, p1, p2, p3, p4, p5, p6, p7, p8, p9, p10⟩ := HB6.out.at
            simp only [Op11.put] at p0 p1 p2 p3 p4 p5 p6 p7 p8 p9 p10
            go_wp2_with fail
            refine st.out.mono ?_
            rintro e w4 ⟨u', rfl, hu', hx⟩
            have hkx := kx_at HKS.out hb6.out.size hu'
            obtain ⟨ta, tn, tc, rfl⟩ := hkx.shape
            have HKX := Lib.hid hkx
            have HO4 := Lib.hid (HO6.out.below hx)
            have hb4' := Lib.hid (below_next hb6.out hx)
            have hb4 := Lib.hid (below_next hb2.out hb4'.out)
            generalize L.trim p o = t at *
            clear hx st hu' hkx HO6 HB6 hb6 p0 p1 p2 p3 p4 p5 p6 p7 p8 p9 p10
            have HO5 := Lib.hid (HO4.out.below ((Below.refl _ w4).alloc (Nat.le_refl _) (.cells #[.int .i64 t.kind, .int .i64 t.level, .int .i64 t.ses, .int .i64 t.snap, .string (str t.bucket), .string (str t.key), .string (str t.val), .int .i64 t.label, .int .i64 t.to, .int .i64 t.n, .slice ta tn tc] 33)))
            have HK5 := Lib.hid (HKX.out.below ((Below.refl _ w4).alloc (Nat.le_refl _) (.cells #[.int .i64 t.kind, .int .i64 t.level, .int .i64 t.ses, .int .i64 t.snap, .string (str t.bucket), .string (str t.key), .string (str t.val), .int .i64 t.label, .int .i64 t.to, .int .i64 t.n, .slice ta tn tc] 33)))
            have HS5 : Hid (Sl (w4.alloc (.cells #[.int .i64 t.kind, .int .i64 t.level, .int .i64 t.ses, .int .i64 t.snap, .string (str t.bucket), .string (str t.key), .string (str t.val), .int .i64 t.label, .int .i64 t.to, .int .i64 t.n, .slice ta tn tc] 33)) 11 1 (.slice (some ⟨w4.heap.size, 0, none⟩) 1 1) (opCells [t.put (.slice ta tn tc)])) := Sl.lit w4 33 11 1 #[.int .i64 t.kind, .int .i64 t.level, .int .i64 t.ses, .int .i64 t.snap, .string (str t.bucket), .string (str t.key), .string (str t.val), .int .i64 t.label, .int .i64 t.to, .int .i64 t.n, .slice ta tn tc] (0, 0) rfl (by decide)
            have hb5 : Hid (Below w.heap.size w (w4.alloc (.cells #[.int .i64 t.kind, .int .i64 t.level, .int .i64 t.ses, .int .i64 t.snap, .string (str t.bucket), .string (str t.key), .string (str t.val), .int .i64 t.label, .int .i64 t.to, .int .i64 t.n, .slice ta tn tc] 33))) := hb4.out.alloc hb4.out.size _
            have hb5' : Hid (Below w2.heap.size w2 (w4.alloc (.cells #[.int .i64 t.kind, .int .i64 t.level, .int .i64 t.ses, .int .i64 t.snap, .string (str t.bucket), .string (str t.key), .string (str t.val), .int .i64 t.label, .int .i64 t.to, .int .i64 t.n, .slice ta tn tc] 33))) := hb4'.out.alloc hb4'.out.size _
            have hll := HBL.out j
            obtain ⟨m, hm⟩ : ∃ m, (L.purgeTo us gs d l j).length = m := ⟨_, rfl⟩
            have hown := HO5.out.own
            rw [hm] at hown hll
            have HOW := Lib.hid hown
            have HM := Lib.hid hm
            clear HO4 HKX hb4 hb4' hown hm
            simp only [Op11.put]
            go_wp2_with (at_builtin; go_must (refine wpList_append_sl rfl _ _ 28 rfl w2.heap.size 33 _ 11 128 Tryd.underlying28 infoOp rfl (by decide) _ _ _ rfl HOW.out _ 1 (opCells [t.put (.slice ta tn tc)]) rfl HS5.out (op_one ⟨_, _, _, rfl⟩) (by unfold maxLen; omega) (by omega) hb5'.out.size ?_))
            intro v7 w7 hown7 hgrow hnn
            clear hnn
            have HO7 : Hid (Ob w w7 w2.heap.size v7 (L.purgeTo us gs d l (j + 1)) (ws ++ [.slice ta tn tc])) := by
              unfold Hid
              rw [HST.out]
              refine HO5.out.push HK5.out hgrow ?_
              rw [HM.out]
              exact hown7
            have hb7' : Hid (Below w2.heap.size w2 w7) := hb5'.out.grown hgrow hb5'.out.size (ownBlock_ge HOW.out)
            clear hown7 hgrow HO5 HK5 HS5 hb5 hb5' HOW HM
            go_wp2_with fail
            go_roundw
            case rel => exact ⟨j + 1, ws ++ [.slice ta tn tc], by omega, by go_num, HO7, hb7'⟩
            case measure => simp [intOf]; omega
          | false =>
            rw [hc] at st
            rw [hc, if_neg (by decide), List.append_nil] at HST
            clear hc HSn HTr
            go_wp2_with fail
            refine st.out.mono ?_
            rintro e w6 ⟨rfl, hx⟩
            have HO6 := Lib.hid (HO4.out.below hx)
            have hb6 := Lib.hid (below_next hb4.out hx)
            rw [← HST.out] at HO6
            clear hx HO4 HB4 hb4 st p0 p1 p2 p3 p4 p5 p6 p7 p8 p9 p10
            go_wp2_with fail
            go_roundw
            case rel => exact ⟨j + 1, ws, by omega, by go_num, HO6, hb6⟩
            case measure => simp [intOf]; omega
    · obtain rfl : j = n := by omega
      rw [HE.out] at HO
      go_wp2_with fail
      go_ret
      exact ⟨_, _, rfl, by rw [HDD.out]; exact HO.out.base hb2.out.size, hbr.out⟩
end Go.Proofs.YtmapmeacjpoaoaaDoor
namespace Go.Proofs.YtmapmeacjpoaoaaDoor
open Go Go.RowKit

def exNs : List (List UInt8) := [[108, 111, 119], [104, 105, 103, 104]]
def exUs : List Nat := [3, 2]
def exQs : List Int := [40, 40]
def exGs : List Gr := [(1, 1, 0)]
def exOp1 : Opr := ⟨7, 1, 1, 0, [], [], [], 0, 0, 0, []⟩
def exOp2 : Opr := ⟨15, 1, 1, 0, [], [], [], 1, 0, 0, []⟩
def exL : List Opr := [exOp1, exOp2]
theorem ex_sets : L.sets exUs exGs (L.down exUs 0) exL = [3, 3] := by decide +kernel
theorem ex_purge : (L.purges exUs exGs (L.down exUs 0) exL).length = 2 := by decide +kernel
theorem ex_purge1 : (L.purges exUs exGs (L.down exUs 0) (exL.take 1)).length = 0 := by decide +kernel
theorem ex_flows : L.flows exGs exOp2 1 = true ∧ L.flows exGs exOp2 2 = false ∧ L.flows exGs exOp1 3 = false := by decide +kernel
theorem ex_u64 : U64s exUs := fun x hx => by
  simp [exUs] at hx
  omega
theorem ex_few : Few exL := fun o ho => by
  simp [exL] at ho
  rcases ho with rfl | rfl <;> decide

theorem two_results (tmps : Array Value) (w : World) (b : Nat) (vn vu vq vg : Value) (hp : tmps.getD 0 undef = .pointer (some ⟨b, 0, none⟩)) (hc : Cb w b vn vu vq vg) :
    (results Tryd.f12 tmps).run Tryd.prog w = .ok (cfv vn vu vq vg) w := by
  obtain ⟨p0, p1, p2, p3⟩ := hc.cell
  rw [results_cell rfl, hp]
  go_simp
set_option maxRecDepth 4000 in
set_option maxHeartbeats 2000000 in
theorem two_any (w : World) : Calls Tryd.prog 12 #[] w fun e w' => ∃ vn vu vq vg, e = .returned (cfv vn vu vq vg) ∧ Cf w' vn vu vq vg exNs exUs exQs exGs ∧ Below w.heap.size w w' := by
  obtain ⟨w1, hw1⟩ : ∃ w1, w.alloc (.cells #[.slice (some ⟨w.heap.size + 1, 0, none⟩) 2 2, .slice (some ⟨w.heap.size + 1 + 1, 0, none⟩) 2 2, .slice (some ⟨w.heap.size + 1 + 1 + 1, 0, none⟩) 2 2, .slice (some ⟨w.heap.size + 1 + 1 + 1 + 1, 0, none⟩) 1 1] 27) = w1 := ⟨_, rfl⟩
  have hs1 : w1.heap.size = w.heap.size + 1 := by rw [← hw1]; simp
  have hb1 : Below w.heap.size w w1 := by rw [← hw1]; exact (Below.refl _ _).alloc (Nat.le_refl _) _
  have hc1 : Cb w1 w.heap.size (.slice (some ⟨w.heap.size + 1, 0, none⟩) 2 2) (.slice (some ⟨w.heap.size + 1 + 1, 0, none⟩) 2 2) (.slice (some ⟨w.heap.size + 1 + 1 + 1, 0, none⟩) 2 2) (.slice (some ⟨w.heap.size + 1 + 1 + 1 + 1, 0, none⟩) 1 1) := by rw [← hw1]; exact Cb.new _ _ _ _ _
  obtain ⟨w2, hw2⟩ : ∃ w2, w1.alloc (.cells #[.string { data := #[108, 111, 119] }, .string { data := #[104, 105, 103, 104] }] 9) = w2 := ⟨_, rfl⟩
  have hk2 : Ks w2 (.slice (some ⟨w1.heap.size, 0, none⟩) 2 2) exNs := by rw [← hw2]; exact Sl.lit w1 9 1 2 _ (0, 0) rfl (by decide)
  have hb2 : Below w1.heap.size w1 w2 := by rw [← hw2]; exact (Below.refl _ _).alloc (Nat.le_refl _) _
  have hs2 : w2.heap.size = w.heap.size + 1 + 1 := by rw [← hw2]; simp [hs1]
  obtain ⟨w3, hw3⟩ : ∃ w3, w2.alloc (.cells #[.int .u64 3, .int .u64 2] 53) = w3 := ⟨_, rfl⟩
  have hk3 : Us w3 (.slice (some ⟨w2.heap.size, 0, none⟩) 2 2) exUs := by rw [← hw3]; exact Sl.lit w2 53 1 2 _ (0, 0) rfl (by decide)
  have hb3 : Below w2.heap.size w2 w3 := by rw [← hw3]; exact (Below.refl _ _).alloc (Nat.le_refl _) _
  have hs3 : w3.heap.size = w.heap.size + 1 + 1 + 1 := by rw [← hw3]; simp [hs2]
  obtain ⟨w4, hw4⟩ : ∃ w4, w3.alloc (.cells #[.int .i64 40, .int .i64 40] 3) = w4 := ⟨_, rfl⟩
  have hk4 : Zs w4 (.slice (some ⟨w3.heap.size, 0, none⟩) 2 2) exQs := by rw [← hw4]; exact Sl.lit w3 3 1 2 _ (0, 0) rfl (by decide)
  have hb4 : Below w3.heap.size w3 w4 := by rw [← hw4]; exact (Below.refl _ _).alloc (Nat.le_refl _) _
  have hs4 : w4.heap.size = w.heap.size + 1 + 1 + 1 + 1 := by rw [← hw4]; simp [hs3]
  obtain ⟨w5, hw5⟩ : ∃ w5, w4.alloc (.cells #[.int .i64 1, .int .i64 1, .int .i64 0] 74) = w5 := ⟨_, rfl⟩
  have hk5 : Gs w5 (.slice (some ⟨w4.heap.size, 0, none⟩) 1 1) exGs := by rw [← hw5]; exact Sl.lit w4 74 3 1 _ (0, 0) rfl (by decide)
  have hb5 : Below w4.heap.size w4 w5 := by rw [← hw5]; exact (Below.refl _ _).alloc (Nat.le_refl _) _
  have e35 := below_next hb4 hb5
  have e25 := below_next hb3 e35
  have e15 := below_next hb2 e25
  rw [hs1] at hk2
  rw [hs2] at hk3
  rw [hs3] at hk4
  rw [hs4] at hk5
  have HCF : Hid (Cf w5 (.slice (some ⟨w.heap.size + 1, 0, none⟩) 2 2) (.slice (some ⟨w.heap.size + 1 + 1, 0, none⟩) 2 2) (.slice (some ⟨w.heap.size + 1 + 1 + 1, 0, none⟩) 2 2) (.slice (some ⟨w.heap.size + 1 + 1 + 1 + 1, 0, none⟩) 1 1) exNs exUs exQs exGs) :=
    ⟨hk2.below e25, hk3.below e35, ex_u64, Sl.below hk4 hb5, hk5⟩
  have HCB := Lib.hid (hc1.later e15)
  have HBF := Lib.hid (below_next hb1 e15)
  have HWF : Hid ((((w.alloc (.cells #[.slice (some ⟨w.heap.size + 1, 0, none⟩) 2 2, .slice (some ⟨w.heap.size + 1 + 1, 0, none⟩) 2 2, .slice (some ⟨w.heap.size + 1 + 1 + 1, 0, none⟩) 2 2, .slice (some ⟨w.heap.size + 1 + 1 + 1 + 1, 0, none⟩) 1 1] 27)).alloc (.cells #[.string { data := #[108, 111, 119] }, .string { data := #[104, 105, 103, 104] }] 9)).alloc (.cells #[.int .u64 3, .int .u64 2] 53)).alloc (.cells #[.int .i64 40, .int .i64 40] 3) = w4) := by unfold Hid; rw [hw1, hw2, hw3, hw4]
  have HW5 := Lib.hid hw5
  clear hw1 hw2 hw3 hw4 hw5 hs1 hs2 hs3 hs4 hk2 hk3 hk4 hk5 hb1 hb2 hb3 hb4 hb5 e35 e25 e15 hc1
  go_enter Tryd.func12, Tryd.ntmps12
  go_wp2_with fail
  rw [HWF.out, HW5.out]
  refine bodyPost_ret (two_results _ _ w.heap.size _ _ _ _ rfl HCB.out) rfl ?_
  exact ⟨_, _, _, _, rfl, HCF.out, HBF.out⟩

theorem Os.take {w : World} {ao : Option Addr} {n cap : Nat} {l : List Opr} (h : Os w (.slice ao n cap) l) (hn : l.length = n) (k : Nat) (hk : k ≤ n) : ∃ v', Os w v' (l.take k) ∧ ∀ W, (Instr.slice 28 (.slice ao n cap) none (some (.int .i64 k)) none).run Tryd.prog W = .ok v' W := by
  obtain ⟨us, h0, h1, h2⟩ := h
  rw [hn] at h1
  obtain ⟨v', h3, h4⟩ := run_take (P := Tryd.prog) (t := 28) Tryd.underlying28 infoOp h1 .i64 k hk
  rw [opCells_take, List.take_zipWith] at h3
  refine ⟨v', ⟨us.take k, by rw [List.length_take, List.length_take, h0], ?_, fun i a b => ?_⟩, h4⟩
  · rw [List.length_take, hn, Nat.min_eq_left hk]; exact h3
  · rw [List.getElem_take, List.getElem_take]
    exact h2 i (by rw [List.length_take] at a; omega) (by rw [List.length_take] at b; omega)

set_option maxRecDepth 4000 in
set_option maxHeartbeats 8000000 in
theorem awake_any (w : World) (ht : DTab w) :
    Calls Tryd.prog 4 #[] w fun e w' => e = .returned (.bool true) ∧ Below w.heap.size w w' := by
  obtain ⟨w1, hw1⟩ : ∃ w1, w.alloc (.cells #[.int .i64 7, .int .i64 1, .int .i64 1, .int .i64 0, .string { data := #[] }, .string { data := #[] }, .string { data := #[] }, .int .i64 0, .int .i64 0, .int .i64 0, .slice none 0 0, .int .i64 15, .int .i64 1, .int .i64 1, .int .i64 0, .string { data := #[] }, .string { data := #[] }, .string { data := #[] }, .int .i64 1, .int .i64 0, .int .i64 0, .slice none 0 0] 33) = w1 := ⟨_, rfl⟩
  have hb1 : Below w.heap.size w w1 := by rw [← hw1]; exact (Below.refl _ _).alloc (Nat.le_refl _) _
  have hk1 : Os w1 (.slice (some ⟨w.heap.size, 0, none⟩) 2 2) exL := by
    refine ⟨[.slice none 0 0, .slice none 0 0], rfl, ?_, fun i h h2 => ?_⟩
    · rw [← hw1]; exact Sl.lit w 33 11 2 _ (0, 0) rfl (by decide)
    · match i, h with
      | 0, _ => exact Ks.nil _
      | 1, _ => exact Ks.nil _
  have HOL := Lib.hid hk1
  have HT := Lib.hid ht
  have HB1 := Lib.hid hb1
  have HW1 := Lib.hid hw1
  obtain ⟨vt, hvt, hrt⟩ := hk1.take rfl 1 (by decide)
  have HVT := Lib.hid hvt
  rw [show ((1 : Nat) : Int) = 1 from rfl] at hrt
  clear hw1 hk1 hb1 ht hvt
  go_enter Tryd.func4, Tryd.ntmps4
  go_wp2_with fail
  rw [HW1.out]
  refine (two_any w1).mono ?_
  rintro e w2 ⟨vn, vu, vq, vg, rfl, hcf, hx⟩
  have st := Lib.hid (purge_any vn vu vq vg _ exUs exGs exL 0 w2 hcf.u ex_u64 hcf.g (HOL.out.below hx) (by decide) ex_few (HT.out.below (below_next HB1.out hx)))
  have hb2 := Lib.hid hx
  clear hcf hx
  go_wp2_with fail
  refine st.out.mono ?_
  rintro e w3 ⟨va, wsa, rfl, hob, hx⟩
  obtain ⟨aa, ca, hva, -⟩ := (hob.os hx).shape
  rw [ex_purge] at hva
  subst hva
  have hb3 := Lib.hid (below_next hb2.out hx)
  clear hob hx st hb2
  go_wp2_with fail
  refine wp_region_mix ext_grow [(1, false), (2, false), (0, true), (3, true), (4, false)] (by kernel_rfl) (by kernel_rfl) ?_
  have hb4 : Hid (Below w1.heap.size w1 w3.drew) := hb3.out.drew
  clear hb3
  generalize w3.drew = w4 at *
  repeat (refine mix_soft rfl (fun K hK => ?_); go_simp; (first | (refine hK _ ?_; clear hK K) | (apply Exists.intro; refine ⟨fun z => ?_, hK _ ?_⟩; (first | done); clear hK K)))
  clear hrt
  refine mix_loud rfl (fun K hK => ?_)
  go_simp
  intro x
  refine (two_any x.1).mono ?_
  rintro e wz ⟨vn2, vu2, vq2, vg2, rfl, hcf, hx⟩
  refine ⟨_, rfl, hx, hK _ _ ?_⟩
  clear hK K
  have CF2 := Lib.hid hcf
  have hb5 := Lib.hid (below_next hb4.out (below_next x.2 hx))
  clear hcf hx x hb4
  refine mix_loud rfl (fun K hK => ?_)
  go_simp
  intro x
  have hbx := below_next hb5.out x.2
  refine (purge_any vn2 vu2 vq2 vg2 vt exUs exGs (exL.take 1) 0 x.1 (CF2.out.below x.2).u ex_u64 (CF2.out.below x.2).g (HVT.out.below hbx) (by decide) (fun o ho => ex_few o (List.mem_of_mem_take ho)) (HT.out.below (below_next HB1.out hbx))).mono ?_
  rintro e wy ⟨vb, wsb, rfl, hob, hx⟩
  obtain ⟨ab, cb, hvb, -⟩ := (hob.os hx).shape
  rw [ex_purge1] at hvb
  subst hvb
  refine ⟨_, rfl, hx, hK _ _ ?_⟩
  clear hK K
  have hb6 := Lib.hid (below_next hbx hx)
  clear hob hx hbx x hb5 CF2 HVT
  repeat (refine mix_soft rfl (fun K hK => ?_); go_simp; (first | (refine hK _ ?_; clear hK K) | (apply Exists.intro; refine ⟨fun z => ?_, hK _ ?_⟩; (first | done); clear hK K)))
  refine mix_done fun w7 hx => ?_
  have hb7 := Lib.hid (below_next hb6.out hx)
  clear hx hb6
  go_wp2_with fail
  refine (two_any w7).mono ?_
  rintro e w8 ⟨vn3, vu3, vq3, vg3, rfl, hcf, hx⟩
  have hb8 := Lib.hid (below_next hb7.out hx)
  have st := Lib.hid (sets_any vn3 vu3 vq3 vg3 _ exUs exGs exL 0 w8 hcf.u ex_u64 hcf.g (HOL.out.below hb8.out) (by decide))
  clear hcf hx hb7
  go_wp2_with fail
  refine st.out.mono ?_
  rintro e w9 ⟨vs, rfl, hos, hx⟩
  rw [ex_sets] at hos
  have HUs : Hid (Us w9 vs [3, 3]) := Sl.of_owns hos
  have hb9 := Lib.hid (below_next hb8.out hx)
  clear hos hx st hb8
  go_wp2_with fail
  refine wp_region_mix ext_grow [(0, false), (1, false), (2, false), (3, false), (4, false), (5, false), (6, false), (7, false), (8, false), (9, false), (10, true), (11, false), (12, false), (13, false), (15, false), (16, false), (17, false), (14, true), (18, false), (19, false), (20, false), (22, false), (23, false), (24, false), (21, true), (25, false), (26, false), (27, false), (28, false), (30, false), (31, false), (32, false), (29, true), (33, false), (34, false), (35, false), (36, false)] (by kernel_rfl) (by kernel_rfl) ?_
  have HU0 : Hid (Us w9.drew vs [3, 3]) := HUs.out
  have hb0 : Hid (Below w1.heap.size w1 w9.drew) := hb9.out.drew
  clear HUs hb9
  generalize w9.drew = wa at *
  repeat (refine mix_soft rfl (fun K hK => ?_); go_simp; (first | (refine hK _ ?_; clear hK K) | (apply Exists.intro; refine ⟨fun z => ?_, hK _ ?_⟩; (first | done); clear hK K)))
  refine mix_loud rfl (fun K hK => ?_)
  go_simp
  intro x
  refine hK _ _ ?_
  clear hK K
  have HX3 : Hid (Us (x.1.alloc (.cells #[.int .u64 3, .int .u64 3] 53)) (.slice (some ⟨x.1.heap.size, 0, none⟩) 2 2) [3, 3]) := Sl.lit x.1 53 1 2 _ (0, 0) rfl (by decide)
  have hxa : Below wa.heap.size wa (x.1.alloc (.cells #[.int .u64 3, .int .u64 3] 53)) := Below.alloc x.2 (Below.size x.2) _
  have HU1 := Lib.hid (HU0.out.below hxa)
  have hbb := Lib.hid (below_next hb0.out hxa)
  clear hxa HU0 hb0
  generalize x.1.alloc (.cells #[.int .u64 3, .int .u64 3] 53) = wb at *
  generalize x.1.heap.size = Bb at *
  clear x
  have HSm : Hid (∀ z : Later wb, Calls Tryd.prog 14 #[vs, .slice (some ⟨Bb, 0, none⟩) 2 2] z.1 fun e w' => e = .returned (.bool true) ∧ Ext z.1 w') := fun z => by
    have := same_any vs (.slice (some ⟨Bb, 0, none⟩) 2 2) [3, 3] [3, 3] z.1 (HU1.out.below z.2) (HX3.out.below z.2)
    exact this
  clear HX3
  have HC0 : Hid (∀ W, Below w1.heap.size w1 W → W.heap[w.heap.size]? = some (.cells #[.int .i64 7, .int .i64 1, .int .i64 1, .int .i64 0, .string { data := #[] }, .string { data := #[] }, .string { data := #[] }, .int .i64 0, .int .i64 0, .int .i64 0, .slice none 0 0, .int .i64 15, .int .i64 1, .int .i64 1, .int .i64 0, .string { data := #[] }, .string { data := #[] }, .string { data := #[] }, .int .i64 1, .int .i64 0, .int .i64 0, .slice none 0 0] 33 (0, 0))) := fun W hW => (hW.block _ (by rw [← HW1.out]; simp)).trans (by rw [← HW1.out]; exact heap_alloc_new w _)
  have p0 : ∀ z : Later wb, z.1.cell? ⟨w.heap.size, 0, none⟩ = some (.int .i64 7) := fun z => cell_of_row z.1 w.heap.size 0 _ _ (0, 0) (HC0.out z.1 (below_next hbb.out z.2))
  have p1 : ∀ z : Later wb, z.1.cell? ⟨w.heap.size, 1, none⟩ = some (.int .i64 1) := fun z => cell_of_row z.1 w.heap.size 1 _ _ (0, 0) (HC0.out z.1 (below_next hbb.out z.2))
  have p2 : ∀ z : Later wb, z.1.cell? ⟨w.heap.size, 2, none⟩ = some (.int .i64 1) := fun z => cell_of_row z.1 w.heap.size 2 _ _ (0, 0) (HC0.out z.1 (below_next hbb.out z.2))
  have p3 : ∀ z : Later wb, z.1.cell? ⟨w.heap.size, 3, none⟩ = some (.int .i64 0) := fun z => cell_of_row z.1 w.heap.size 3 _ _ (0, 0) (HC0.out z.1 (below_next hbb.out z.2))
  have p4 : ∀ z : Later wb, z.1.cell? ⟨w.heap.size, 4, none⟩ = some (.string { data := #[] }) := fun z => cell_of_row z.1 w.heap.size 4 _ _ (0, 0) (HC0.out z.1 (below_next hbb.out z.2))
  have p5 : ∀ z : Later wb, z.1.cell? ⟨w.heap.size, 5, none⟩ = some (.string { data := #[] }) := fun z => cell_of_row z.1 w.heap.size 5 _ _ (0, 0) (HC0.out z.1 (below_next hbb.out z.2))
  have p6 : ∀ z : Later wb, z.1.cell? ⟨w.heap.size, 6, none⟩ = some (.string { data := #[] }) := fun z => cell_of_row z.1 w.heap.size 6 _ _ (0, 0) (HC0.out z.1 (below_next hbb.out z.2))
  have p7 : ∀ z : Later wb, z.1.cell? ⟨w.heap.size, 7, none⟩ = some (.int .i64 0) := fun z => cell_of_row z.1 w.heap.size 7 _ _ (0, 0) (HC0.out z.1 (below_next hbb.out z.2))
  have p8 : ∀ z : Later wb, z.1.cell? ⟨w.heap.size, 8, none⟩ = some (.int .i64 0) := fun z => cell_of_row z.1 w.heap.size 8 _ _ (0, 0) (HC0.out z.1 (below_next hbb.out z.2))
  have p9 : ∀ z : Later wb, z.1.cell? ⟨w.heap.size, 9, none⟩ = some (.int .i64 0) := fun z => cell_of_row z.1 w.heap.size 9 _ _ (0, 0) (HC0.out z.1 (below_next hbb.out z.2))
  have p10 : ∀ z : Later wb, z.1.cell? ⟨w.heap.size, 10, none⟩ = some (.slice none 0 0) := fun z => cell_of_row z.1 w.heap.size 10 _ _ (0, 0) (HC0.out z.1 (below_next hbb.out z.2))
  have q0 : ∀ z : Later wb, z.1.cell? ⟨w.heap.size, 11, none⟩ = some (.int .i64 15) := fun z => cell_of_row z.1 w.heap.size 11 _ _ (0, 0) (HC0.out z.1 (below_next hbb.out z.2))
  have q1 : ∀ z : Later wb, z.1.cell? ⟨w.heap.size, 12, none⟩ = some (.int .i64 1) := fun z => cell_of_row z.1 w.heap.size 12 _ _ (0, 0) (HC0.out z.1 (below_next hbb.out z.2))
  have q2 : ∀ z : Later wb, z.1.cell? ⟨w.heap.size, 13, none⟩ = some (.int .i64 1) := fun z => cell_of_row z.1 w.heap.size 13 _ _ (0, 0) (HC0.out z.1 (below_next hbb.out z.2))
  have q3 : ∀ z : Later wb, z.1.cell? ⟨w.heap.size, 14, none⟩ = some (.int .i64 0) := fun z => cell_of_row z.1 w.heap.size 14 _ _ (0, 0) (HC0.out z.1 (below_next hbb.out z.2))
  have q4 : ∀ z : Later wb, z.1.cell? ⟨w.heap.size, 15, none⟩ = some (.string { data := #[] }) := fun z => cell_of_row z.1 w.heap.size 15 _ _ (0, 0) (HC0.out z.1 (below_next hbb.out z.2))
  have q5 : ∀ z : Later wb, z.1.cell? ⟨w.heap.size, 16, none⟩ = some (.string { data := #[] }) := fun z => cell_of_row z.1 w.heap.size 16 _ _ (0, 0) (HC0.out z.1 (below_next hbb.out z.2))
  have q6 : ∀ z : Later wb, z.1.cell? ⟨w.heap.size, 17, none⟩ = some (.string { data := #[] }) := fun z => cell_of_row z.1 w.heap.size 17 _ _ (0, 0) (HC0.out z.1 (below_next hbb.out z.2))
  have q7 : ∀ z : Later wb, z.1.cell? ⟨w.heap.size, 18, none⟩ = some (.int .i64 1) := fun z => cell_of_row z.1 w.heap.size 18 _ _ (0, 0) (HC0.out z.1 (below_next hbb.out z.2))
  have q8 : ∀ z : Later wb, z.1.cell? ⟨w.heap.size, 19, none⟩ = some (.int .i64 0) := fun z => cell_of_row z.1 w.heap.size 19 _ _ (0, 0) (HC0.out z.1 (below_next hbb.out z.2))
  have q9 : ∀ z : Later wb, z.1.cell? ⟨w.heap.size, 20, none⟩ = some (.int .i64 0) := fun z => cell_of_row z.1 w.heap.size 20 _ _ (0, 0) (HC0.out z.1 (below_next hbb.out z.2))
  have q10 : ∀ z : Later wb, z.1.cell? ⟨w.heap.size, 21, none⟩ = some (.slice none 0 0) := fun z => cell_of_row z.1 w.heap.size 21 _ _ (0, 0) (HC0.out z.1 (below_next hbb.out z.2))
  repeat (refine mix_soft rfl (fun K hK => ?_); go_simp; (first | (refine hK _ ?_; clear hK K) | (apply Exists.intro; refine ⟨fun z => ?_, hK _ ?_⟩; (first | (go_at_call 14; with_reducible exact HSm.out z)); clear hK K)))
  clear HSm HU1 p0 q0 p1 q1 p2 q2 p3 q3 p4 q4 p5 q5 p6 q6 p7 q7 p8 q8 p9 q9 p10 q10
  refine mix_loud rfl (fun K hK => ?_)
  go_simp
  intro x
  refine (two_any x.1).mono ?_
  rintro e wc ⟨vn4, vu4, vq4, vg4, rfl, hcf, hx⟩
  refine ⟨_, rfl, hx, hK _ _ ?_⟩
  clear hK K
  have hbc := Lib.hid (below_next hbb.out (below_next x.2 hx))
  have HFy : Hid (∀ z : Later wc, Calls Tryd.prog 15 #[.agg #[vn4, vu4, vq4, vg4], .agg #[.int .i64 15, .int .i64 1, .int .i64 1, .int .i64 0, .string { data := #[] }, .string { data := #[] }, .string { data := #[] }, .int .i64 1, .int .i64 0, .int .i64 0, .slice none 0 0], .int .u64 1] z.1 fun e w' => e = .returned (.bool true) ∧ Ext z.1 w') := fun z => by
    have := flows_any vn4 vu4 vq4 vg4 exGs exOp2 (.slice none 0 0) 1 z.1 (hcf.below z.2).g (by decide)
    rw [ex_flows.1] at this
    exact this
  clear hcf hx x hbb
  have p0 : ∀ z : Later wc, z.1.cell? ⟨w.heap.size, 0, none⟩ = some (.int .i64 7) := fun z => cell_of_row z.1 w.heap.size 0 _ _ (0, 0) (HC0.out z.1 (below_next hbc.out z.2))
  have p1 : ∀ z : Later wc, z.1.cell? ⟨w.heap.size, 1, none⟩ = some (.int .i64 1) := fun z => cell_of_row z.1 w.heap.size 1 _ _ (0, 0) (HC0.out z.1 (below_next hbc.out z.2))
  have p2 : ∀ z : Later wc, z.1.cell? ⟨w.heap.size, 2, none⟩ = some (.int .i64 1) := fun z => cell_of_row z.1 w.heap.size 2 _ _ (0, 0) (HC0.out z.1 (below_next hbc.out z.2))
  have p3 : ∀ z : Later wc, z.1.cell? ⟨w.heap.size, 3, none⟩ = some (.int .i64 0) := fun z => cell_of_row z.1 w.heap.size 3 _ _ (0, 0) (HC0.out z.1 (below_next hbc.out z.2))
  have p4 : ∀ z : Later wc, z.1.cell? ⟨w.heap.size, 4, none⟩ = some (.string { data := #[] }) := fun z => cell_of_row z.1 w.heap.size 4 _ _ (0, 0) (HC0.out z.1 (below_next hbc.out z.2))
  have p5 : ∀ z : Later wc, z.1.cell? ⟨w.heap.size, 5, none⟩ = some (.string { data := #[] }) := fun z => cell_of_row z.1 w.heap.size 5 _ _ (0, 0) (HC0.out z.1 (below_next hbc.out z.2))
  have p6 : ∀ z : Later wc, z.1.cell? ⟨w.heap.size, 6, none⟩ = some (.string { data := #[] }) := fun z => cell_of_row z.1 w.heap.size 6 _ _ (0, 0) (HC0.out z.1 (below_next hbc.out z.2))
  have p7 : ∀ z : Later wc, z.1.cell? ⟨w.heap.size, 7, none⟩ = some (.int .i64 0) := fun z => cell_of_row z.1 w.heap.size 7 _ _ (0, 0) (HC0.out z.1 (below_next hbc.out z.2))
  have p8 : ∀ z : Later wc, z.1.cell? ⟨w.heap.size, 8, none⟩ = some (.int .i64 0) := fun z => cell_of_row z.1 w.heap.size 8 _ _ (0, 0) (HC0.out z.1 (below_next hbc.out z.2))
  have p9 : ∀ z : Later wc, z.1.cell? ⟨w.heap.size, 9, none⟩ = some (.int .i64 0) := fun z => cell_of_row z.1 w.heap.size 9 _ _ (0, 0) (HC0.out z.1 (below_next hbc.out z.2))
  have p10 : ∀ z : Later wc, z.1.cell? ⟨w.heap.size, 10, none⟩ = some (.slice none 0 0) := fun z => cell_of_row z.1 w.heap.size 10 _ _ (0, 0) (HC0.out z.1 (below_next hbc.out z.2))
  have q0 : ∀ z : Later wc, z.1.cell? ⟨w.heap.size, 11, none⟩ = some (.int .i64 15) := fun z => cell_of_row z.1 w.heap.size 11 _ _ (0, 0) (HC0.out z.1 (below_next hbc.out z.2))
  have q1 : ∀ z : Later wc, z.1.cell? ⟨w.heap.size, 12, none⟩ = some (.int .i64 1) := fun z => cell_of_row z.1 w.heap.size 12 _ _ (0, 0) (HC0.out z.1 (below_next hbc.out z.2))
  have q2 : ∀ z : Later wc, z.1.cell? ⟨w.heap.size, 13, none⟩ = some (.int .i64 1) := fun z => cell_of_row z.1 w.heap.size 13 _ _ (0, 0) (HC0.out z.1 (below_next hbc.out z.2))
  have q3 : ∀ z : Later wc, z.1.cell? ⟨w.heap.size, 14, none⟩ = some (.int .i64 0) := fun z => cell_of_row z.1 w.heap.size 14 _ _ (0, 0) (HC0.out z.1 (below_next hbc.out z.2))
  have q4 : ∀ z : Later wc, z.1.cell? ⟨w.heap.size, 15, none⟩ = some (.string { data := #[] }) := fun z => cell_of_row z.1 w.heap.size 15 _ _ (0, 0) (HC0.out z.1 (below_next hbc.out z.2))
  have q5 : ∀ z : Later wc, z.1.cell? ⟨w.heap.size, 16, none⟩ = some (.string { data := #[] }) := fun z => cell_of_row z.1 w.heap.size 16 _ _ (0, 0) (HC0.out z.1 (below_next hbc.out z.2))
  have q6 : ∀ z : Later wc, z.1.cell? ⟨w.heap.size, 17, none⟩ = some (.string { data := #[] }) := fun z => cell_of_row z.1 w.heap.size 17 _ _ (0, 0) (HC0.out z.1 (below_next hbc.out z.2))
  have q7 : ∀ z : Later wc, z.1.cell? ⟨w.heap.size, 18, none⟩ = some (.int .i64 1) := fun z => cell_of_row z.1 w.heap.size 18 _ _ (0, 0) (HC0.out z.1 (below_next hbc.out z.2))
  have q8 : ∀ z : Later wc, z.1.cell? ⟨w.heap.size, 19, none⟩ = some (.int .i64 0) := fun z => cell_of_row z.1 w.heap.size 19 _ _ (0, 0) (HC0.out z.1 (below_next hbc.out z.2))
  have q9 : ∀ z : Later wc, z.1.cell? ⟨w.heap.size, 20, none⟩ = some (.int .i64 0) := fun z => cell_of_row z.1 w.heap.size 20 _ _ (0, 0) (HC0.out z.1 (below_next hbc.out z.2))
  have q10 : ∀ z : Later wc, z.1.cell? ⟨w.heap.size, 21, none⟩ = some (.slice none 0 0) := fun z => cell_of_row z.1 w.heap.size 21 _ _ (0, 0) (HC0.out z.1 (below_next hbc.out z.2))
  repeat (refine mix_soft rfl (fun K hK => ?_); go_simp; (first | (refine hK _ ?_; clear hK K) | (apply Exists.intro; refine ⟨fun z => ?_, hK _ ?_⟩; (first | (go_at_call 15; with_reducible exact HFy.out z)); clear hK K)))
  clear HFy p0 q0 p1 q1 p2 q2 p3 q3 p4 q4 p5 q5 p6 q6 p7 q7 p8 q8 p9 q9 p10 q10
  refine mix_loud rfl (fun K hK => ?_)
  go_simp
  intro x
  refine (two_any x.1).mono ?_
  rintro e wd ⟨vn5, vu5, vq5, vg5, rfl, hcf, hx⟩
  refine ⟨_, rfl, hx, hK _ _ ?_⟩
  clear hK K
  have hbd := Lib.hid (below_next hbc.out (below_next x.2 hx))
  have HFy : Hid (∀ z : Later wd, Calls Tryd.prog 15 #[.agg #[vn5, vu5, vq5, vg5], .agg #[.int .i64 15, .int .i64 1, .int .i64 1, .int .i64 0, .string { data := #[] }, .string { data := #[] }, .string { data := #[] }, .int .i64 1, .int .i64 0, .int .i64 0, .slice none 0 0], .int .u64 2] z.1 fun e w' => e = .returned (.bool false) ∧ Ext z.1 w') := fun z => by
    have := flows_any vn5 vu5 vq5 vg5 exGs exOp2 (.slice none 0 0) 2 z.1 (hcf.below z.2).g (by decide)
    rw [ex_flows.2.1] at this
    exact this
  clear hcf hx x hbc
  have p0 : ∀ z : Later wd, z.1.cell? ⟨w.heap.size, 0, none⟩ = some (.int .i64 7) := fun z => cell_of_row z.1 w.heap.size 0 _ _ (0, 0) (HC0.out z.1 (below_next hbd.out z.2))
  have p1 : ∀ z : Later wd, z.1.cell? ⟨w.heap.size, 1, none⟩ = some (.int .i64 1) := fun z => cell_of_row z.1 w.heap.size 1 _ _ (0, 0) (HC0.out z.1 (below_next hbd.out z.2))
  have p2 : ∀ z : Later wd, z.1.cell? ⟨w.heap.size, 2, none⟩ = some (.int .i64 1) := fun z => cell_of_row z.1 w.heap.size 2 _ _ (0, 0) (HC0.out z.1 (below_next hbd.out z.2))
  have p3 : ∀ z : Later wd, z.1.cell? ⟨w.heap.size, 3, none⟩ = some (.int .i64 0) := fun z => cell_of_row z.1 w.heap.size 3 _ _ (0, 0) (HC0.out z.1 (below_next hbd.out z.2))
  have p4 : ∀ z : Later wd, z.1.cell? ⟨w.heap.size, 4, none⟩ = some (.string { data := #[] }) := fun z => cell_of_row z.1 w.heap.size 4 _ _ (0, 0) (HC0.out z.1 (below_next hbd.out z.2))
  have p5 : ∀ z : Later wd, z.1.cell? ⟨w.heap.size, 5, none⟩ = some (.string { data := #[] }) := fun z => cell_of_row z.1 w.heap.size 5 _ _ (0, 0) (HC0.out z.1 (below_next hbd.out z.2))
  have p6 : ∀ z : Later wd, z.1.cell? ⟨w.heap.size, 6, none⟩ = some (.string { data := #[] }) := fun z => cell_of_row z.1 w.heap.size 6 _ _ (0, 0) (HC0.out z.1 (below_next hbd.out z.2))
  have p7 : ∀ z : Later wd, z.1.cell? ⟨w.heap.size, 7, none⟩ = some (.int .i64 0) := fun z => cell_of_row z.1 w.heap.size 7 _ _ (0, 0) (HC0.out z.1 (below_next hbd.out z.2))
  have p8 : ∀ z : Later wd, z.1.cell? ⟨w.heap.size, 8, none⟩ = some (.int .i64 0) := fun z => cell_of_row z.1 w.heap.size 8 _ _ (0, 0) (HC0.out z.1 (below_next hbd.out z.2))
  have p9 : ∀ z : Later wd, z.1.cell? ⟨w.heap.size, 9, none⟩ = some (.int .i64 0) := fun z => cell_of_row z.1 w.heap.size 9 _ _ (0, 0) (HC0.out z.1 (below_next hbd.out z.2))
  have p10 : ∀ z : Later wd, z.1.cell? ⟨w.heap.size, 10, none⟩ = some (.slice none 0 0) := fun z => cell_of_row z.1 w.heap.size 10 _ _ (0, 0) (HC0.out z.1 (below_next hbd.out z.2))
  have q0 : ∀ z : Later wd, z.1.cell? ⟨w.heap.size, 11, none⟩ = some (.int .i64 15) := fun z => cell_of_row z.1 w.heap.size 11 _ _ (0, 0) (HC0.out z.1 (below_next hbd.out z.2))
  have q1 : ∀ z : Later wd, z.1.cell? ⟨w.heap.size, 12, none⟩ = some (.int .i64 1) := fun z => cell_of_row z.1 w.heap.size 12 _ _ (0, 0) (HC0.out z.1 (below_next hbd.out z.2))
  have q2 : ∀ z : Later wd, z.1.cell? ⟨w.heap.size, 13, none⟩ = some (.int .i64 1) := fun z => cell_of_row z.1 w.heap.size 13 _ _ (0, 0) (HC0.out z.1 (below_next hbd.out z.2))
  have q3 : ∀ z : Later wd, z.1.cell? ⟨w.heap.size, 14, none⟩ = some (.int .i64 0) := fun z => cell_of_row z.1 w.heap.size 14 _ _ (0, 0) (HC0.out z.1 (below_next hbd.out z.2))
  have q4 : ∀ z : Later wd, z.1.cell? ⟨w.heap.size, 15, none⟩ = some (.string { data := #[] }) := fun z => cell_of_row z.1 w.heap.size 15 _ _ (0, 0) (HC0.out z.1 (below_next hbd.out z.2))
  have q5 : ∀ z : Later wd, z.1.cell? ⟨w.heap.size, 16, none⟩ = some (.string { data := #[] }) := fun z => cell_of_row z.1 w.heap.size 16 _ _ (0, 0) (HC0.out z.1 (below_next hbd.out z.2))
  have q6 : ∀ z : Later wd, z.1.cell? ⟨w.heap.size, 17, none⟩ = some (.string { data := #[] }) := fun z => cell_of_row z.1 w.heap.size 17 _ _ (0, 0) (HC0.out z.1 (below_next hbd.out z.2))
  have q7 : ∀ z : Later wd, z.1.cell? ⟨w.heap.size, 18, none⟩ = some (.int .i64 1) := fun z => cell_of_row z.1 w.heap.size 18 _ _ (0, 0) (HC0.out z.1 (below_next hbd.out z.2))
  have q8 : ∀ z : Later wd, z.1.cell? ⟨w.heap.size, 19, none⟩ = some (.int .i64 0) := fun z => cell_of_row z.1 w.heap.size 19 _ _ (0, 0) (HC0.out z.1 (below_next hbd.out z.2))
  have q9 : ∀ z : Later wd, z.1.cell? ⟨w.heap.size, 20, none⟩ = some (.int .i64 0) := fun z => cell_of_row z.1 w.heap.size 20 _ _ (0, 0) (HC0.out z.1 (below_next hbd.out z.2))
  have q10 : ∀ z : Later wd, z.1.cell? ⟨w.heap.size, 21, none⟩ = some (.slice none 0 0) := fun z => cell_of_row z.1 w.heap.size 21 _ _ (0, 0) (HC0.out z.1 (below_next hbd.out z.2))
  repeat (refine mix_soft rfl (fun K hK => ?_); go_simp; (first | (refine hK _ ?_; clear hK K) | (apply Exists.intro; refine ⟨fun z => ?_, hK _ ?_⟩; (first | (go_at_call 15; with_reducible exact HFy.out z)); clear hK K)))
  clear HFy p0 q0 p1 q1 p2 q2 p3 q3 p4 q4 p5 q5 p6 q6 p7 q7 p8 q8 p9 q9 p10 q10
  refine mix_loud rfl (fun K hK => ?_)
  go_simp
  intro x
  refine (two_any x.1).mono ?_
  rintro e we ⟨vn6, vu6, vq6, vg6, rfl, hcf, hx⟩
  refine ⟨_, rfl, hx, hK _ _ ?_⟩
  clear hK K
  have hbe := Lib.hid (below_next hbd.out (below_next x.2 hx))
  have HFy : Hid (∀ z : Later we, Calls Tryd.prog 15 #[.agg #[vn6, vu6, vq6, vg6], .agg #[.int .i64 7, .int .i64 1, .int .i64 1, .int .i64 0, .string { data := #[] }, .string { data := #[] }, .string { data := #[] }, .int .i64 0, .int .i64 0, .int .i64 0, .slice none 0 0], .int .u64 3] z.1 fun e w' => e = .returned (.bool false) ∧ Ext z.1 w') := fun z => by
    have := flows_any vn6 vu6 vq6 vg6 exGs exOp1 (.slice none 0 0) 3 z.1 (hcf.below z.2).g (by decide)
    rw [ex_flows.2.2] at this
    exact this
  clear hcf hx x hbd
  have p0 : ∀ z : Later we, z.1.cell? ⟨w.heap.size, 0, none⟩ = some (.int .i64 7) := fun z => cell_of_row z.1 w.heap.size 0 _ _ (0, 0) (HC0.out z.1 (below_next hbe.out z.2))
  have p1 : ∀ z : Later we, z.1.cell? ⟨w.heap.size, 1, none⟩ = some (.int .i64 1) := fun z => cell_of_row z.1 w.heap.size 1 _ _ (0, 0) (HC0.out z.1 (below_next hbe.out z.2))
  have p2 : ∀ z : Later we, z.1.cell? ⟨w.heap.size, 2, none⟩ = some (.int .i64 1) := fun z => cell_of_row z.1 w.heap.size 2 _ _ (0, 0) (HC0.out z.1 (below_next hbe.out z.2))
  have p3 : ∀ z : Later we, z.1.cell? ⟨w.heap.size, 3, none⟩ = some (.int .i64 0) := fun z => cell_of_row z.1 w.heap.size 3 _ _ (0, 0) (HC0.out z.1 (below_next hbe.out z.2))
  have p4 : ∀ z : Later we, z.1.cell? ⟨w.heap.size, 4, none⟩ = some (.string { data := #[] }) := fun z => cell_of_row z.1 w.heap.size 4 _ _ (0, 0) (HC0.out z.1 (below_next hbe.out z.2))
  have p5 : ∀ z : Later we, z.1.cell? ⟨w.heap.size, 5, none⟩ = some (.string { data := #[] }) := fun z => cell_of_row z.1 w.heap.size 5 _ _ (0, 0) (HC0.out z.1 (below_next hbe.out z.2))
  have p6 : ∀ z : Later we, z.1.cell? ⟨w.heap.size, 6, none⟩ = some (.string { data := #[] }) := fun z => cell_of_row z.1 w.heap.size 6 _ _ (0, 0) (HC0.out z.1 (below_next hbe.out z.2))
  have p7 : ∀ z : Later we, z.1.cell? ⟨w.heap.size, 7, none⟩ = some (.int .i64 0) := fun z => cell_of_row z.1 w.heap.size 7 _ _ (0, 0) (HC0.out z.1 (below_next hbe.out z.2))
  have p8 : ∀ z : Later we, z.1.cell? ⟨w.heap.size, 8, none⟩ = some (.int .i64 0) := fun z => cell_of_row z.1 w.heap.size 8 _ _ (0, 0) (HC0.out z.1 (below_next hbe.out z.2))
  have p9 : ∀ z : Later we, z.1.cell? ⟨w.heap.size, 9, none⟩ = some (.int .i64 0) := fun z => cell_of_row z.1 w.heap.size 9 _ _ (0, 0) (HC0.out z.1 (below_next hbe.out z.2))
  have p10 : ∀ z : Later we, z.1.cell? ⟨w.heap.size, 10, none⟩ = some (.slice none 0 0) := fun z => cell_of_row z.1 w.heap.size 10 _ _ (0, 0) (HC0.out z.1 (below_next hbe.out z.2))
  have q0 : ∀ z : Later we, z.1.cell? ⟨w.heap.size, 11, none⟩ = some (.int .i64 15) := fun z => cell_of_row z.1 w.heap.size 11 _ _ (0, 0) (HC0.out z.1 (below_next hbe.out z.2))
  have q1 : ∀ z : Later we, z.1.cell? ⟨w.heap.size, 12, none⟩ = some (.int .i64 1) := fun z => cell_of_row z.1 w.heap.size 12 _ _ (0, 0) (HC0.out z.1 (below_next hbe.out z.2))
  have q2 : ∀ z : Later we, z.1.cell? ⟨w.heap.size, 13, none⟩ = some (.int .i64 1) := fun z => cell_of_row z.1 w.heap.size 13 _ _ (0, 0) (HC0.out z.1 (below_next hbe.out z.2))
  have q3 : ∀ z : Later we, z.1.cell? ⟨w.heap.size, 14, none⟩ = some (.int .i64 0) := fun z => cell_of_row z.1 w.heap.size 14 _ _ (0, 0) (HC0.out z.1 (below_next hbe.out z.2))
  have q4 : ∀ z : Later we, z.1.cell? ⟨w.heap.size, 15, none⟩ = some (.string { data := #[] }) := fun z => cell_of_row z.1 w.heap.size 15 _ _ (0, 0) (HC0.out z.1 (below_next hbe.out z.2))
  have q5 : ∀ z : Later we, z.1.cell? ⟨w.heap.size, 16, none⟩ = some (.string { data := #[] }) := fun z => cell_of_row z.1 w.heap.size 16 _ _ (0, 0) (HC0.out z.1 (below_next hbe.out z.2))
  have q6 : ∀ z : Later we, z.1.cell? ⟨w.heap.size, 17, none⟩ = some (.string { data := #[] }) := fun z => cell_of_row z.1 w.heap.size 17 _ _ (0, 0) (HC0.out z.1 (below_next hbe.out z.2))
  have q7 : ∀ z : Later we, z.1.cell? ⟨w.heap.size, 18, none⟩ = some (.int .i64 1) := fun z => cell_of_row z.1 w.heap.size 18 _ _ (0, 0) (HC0.out z.1 (below_next hbe.out z.2))
  have q8 : ∀ z : Later we, z.1.cell? ⟨w.heap.size, 19, none⟩ = some (.int .i64 0) := fun z => cell_of_row z.1 w.heap.size 19 _ _ (0, 0) (HC0.out z.1 (below_next hbe.out z.2))
  have q9 : ∀ z : Later we, z.1.cell? ⟨w.heap.size, 20, none⟩ = some (.int .i64 0) := fun z => cell_of_row z.1 w.heap.size 20 _ _ (0, 0) (HC0.out z.1 (below_next hbe.out z.2))
  have q10 : ∀ z : Later we, z.1.cell? ⟨w.heap.size, 21, none⟩ = some (.slice none 0 0) := fun z => cell_of_row z.1 w.heap.size 21 _ _ (0, 0) (HC0.out z.1 (below_next hbe.out z.2))
  repeat (refine mix_soft rfl (fun K hK => ?_); go_simp; (first | (refine hK _ ?_; clear hK K) | (apply Exists.intro; refine ⟨fun z => ?_, hK _ ?_⟩; (first | (go_at_call 15; with_reducible exact HFy.out z)); clear hK K)))
  clear HFy p0 q0 p1 q1 p2 q2 p3 q3 p4 q4 p5 q5 p6 q6 p7 q7 p8 q8 p9 q9 p10 q10
  refine mix_done fun wf hx => ?_
  have hfin := Lib.hid (below_next HB1.out (below_next hbe.out hx))
  clear hx hbe
  go_wp2_with fail
  go_ret
  exact ⟨rfl, hfin.out⟩
end Go.Proofs.YtmapmeacjpoaoaaDoor
