/- What the reference's Unsnap returns at sessions. A model as it lies in memory; results. What the reference's names, Name, Check of an operation return. What the model's has returns. -/
import Derived.Test.YtmapmeacjpoaoaaDoorPm10
namespace Go.Proofs.YtmapmeacjpoaoaaDoor
open Go Go.RowKit

set_option maxHeartbeats 2000000 in
theorem sunsnap_any (G : Nat → Prop) (v : Value) (us : List Value) (l : List Ses) (level n sn : Int) (w : World) (h : Fz G w (fun W => Sv W v us l)) (hG : ∀ k, G k → k < w.heap.size) (hl : l.length ≤ 1000) (h1 : ∀ s ∈ l, s.snaps.length ≤ 1000 ∧ 0 ≤ s.last ∧ s.last ≤ 1000) :
    Calls Tryd.prog 51 #[v, .int .i64 level, .int .i64 n, .int .i64 sn] w fun e w' => ∃ v' us', e = .returned (.tuple #[v', .bool (M.had l level n sn)]) ∧ Fz G w' (fun W => Sv W v' us' (M.unsnapS l level n sn)) ∧ Below w.heap.size w w' := by
  have h2 := h.here
  have hz : (List.zipWith Ses5.put l us).length = l.length := by simp [h2.len]
  have HF := Lib.hid (sfind_any v us l level n w h2)
  cases hf : l.findIdx? (M.isS level n) with
  | none =>
    rw [hf, show M.idxI none = -1 from rfl] at HF
    have hr2 : M.had l level n sn = false := by unfold M.had; rw [hf]
    have hr : M.unsnapS l level n sn = l := by unfold M.unsnapS; rw [hr2]; rfl
    rw [hr, hr2]
    have HH := Lib.hid h
    clear hf hr hr2 h h2 hz hG h1
    go_enter Tryd.func51, Tryd.ntmps51
    go_wp2_with fail
    refine HF.out.mono ?_
    rintro e w' ⟨rfl, rfl⟩
    go_wp2_with fail
    go_ret2
    exact ⟨_, _, rfl, HH.out, Below.refl _ _⟩
  | some i =>
    obtain ⟨hi, -⟩ := List.findIdx?_eq_some_iff_getElem.1 hf
    rw [hf, show M.idxI (some i) = (i : Int) from rfl] at HF
    have hr2 : M.had l level n sn = ((M.left sn l[i]).length != l[i].snaps.length) := by unfold M.had; simp [hf, hi]
    have hr : M.unsnapS l level n sn = if ((M.left sn l[i]).length != l[i].snaps.length) = true then l.set i (M.less sn l[i]) else l := by
      unfold M.unsnapS
      rw [hr2, hf]
      simp only []
      rw [modify_set _ _ _ hi]
    have HR := Lib.hid hr
    have HR2 := Lib.hid hr2
    obtain ⟨hs1, hs2, hs3⟩ := h1 l[i] (List.getElem_mem hi)
    obtain ⟨ao, cap, rfl, -⟩ := h2.sl.shape
    obtain ⟨b, off, u, hu, rfl, hzs, hc⟩ := h2.at (j := i) hi
    have HMore : Hid (M.less sn l[i] = ⟨l[i].level, l[i].n, l[i].last, l[i].gone, M.left sn l[i]⟩) := rfl
    have HW : Hid (∀ W (hW : Below w.heap.size w W) (x0 x1 x3 : Int) (x4 : Bool) (a : Option Addr) (n c : Nat), Calls Tryd.prog 73 #[.slice (some ⟨b, off, none⟩) l.length cap, .int .i64 i, .agg #[.int .i64 x0, .int .i64 x1, .slice a n c, .int .i64 x3, .bool x4]] W fun e w' => ∃ v', e = .returned v' ∧ w'.ownsRow W.heap.size 91 5 v' l.length (sesCells ((List.zipWith Ses5.put l us).set i ⟨x0, x1, x3, x4, .slice a n c⟩)) ∧ Below W.heap.size W w') := fun W hW x0 x1 x3 x4 a n c => by
      have st := swith_any (.slice (some ⟨b, off, none⟩) l.length cap) (List.zipWith Ses5.put l us) i x0 x1 x3 x4 a n c W (by rw [hz]; exact h2.sl.below hW) h2.raw (by rw [hz]; exact hi) (by rw [hz]; exact hl)
      rw [hz] at st
      exact st
    have HH := Lib.hid h
    have HG := Lib.hid hG
    have HI := Lib.hid hi
    have hi0 : (0 : Int) ≤ (i : Int) := by omega
    have hiI : (i : Int) < (l.length : Int) := by omega
    obtain ⟨p0, p1, p2, p3, p4⟩ := hc w (Below.refl _ _)
    obtain ⟨s, hs⟩ : ∃ s, l[i]'hi = s := ⟨_, rfl⟩
    rw [hs] at hs1 hs2 hs3 p0 p1 p3 p4 hzs HMore HR HR2
    obtain ⟨N, hN⟩ : ∃ N, l.length = N := ⟨_, rfl⟩
    have HN := Lib.hid hN
    rw [hN] at HF HW HH hiI ⊢
    obtain ⟨au, cu, rfl, -⟩ := Sl.shape hzs
    obtain ⟨s0, s1, s3, s4, s2⟩ := s
    simp only [] at hs1 hs2 hs3 p0 p1 p3 p4 hzs HMore HR HR2
    obtain ⟨m, hm⟩ : ∃ m, s2.length = m := ⟨_, rfl⟩
    have HM := Lib.hid hm
    have hzs : Sl w 1 m (.slice au s2.length cu) (intsV s2) := by rw [← hm]; exact hzs
    rw [hm] at hs1 p2 hzs
    have HB1 : Hid (Below w.heap.size w (w.alloc (.cells #[.int .i64 s0, .int .i64 s1, .slice au m cu, .int .i64 s3, .bool s4] 91))) := (Below.refl _ _).alloc (Nat.le_refl _) _
    have HS1 : Hid (Sb (w.alloc (.cells #[.int .i64 s0, .int .i64 s1, .slice au m cu, .int .i64 s3, .bool s4] 91)) w.heap.size ⟨s0, s1, s3, s4, .slice au m cu⟩) := Sb.new w ⟨s0, s1, s3, s4, .slice au m cu⟩
    obtain ⟨w1, hw1⟩ : ∃ w1, w.alloc (.cells #[.int .i64 s0, .int .i64 s1, .slice au m cu, .int .i64 s3, .bool s4] 91) = w1 := ⟨_, rfl⟩
    rw [hw1] at HB1 HS1
    have HZ := Lib.hid (hzs.below HB1.out)
    obtain ⟨B, hB⟩ : ∃ B, w.heap.size = B := ⟨_, rfl⟩
    rw [hB] at HS1
    obtain ⟨G1, hG1⟩ : ∃ G1, w1.heap.size = G1 := ⟨_, rfl⟩
    have HG1 := Lib.hid hG1
    have hBG : B < G1 := by rw [← hG1]; exact HS1.out.lt
    have hG4 : G1 ≤ w1.heap.size := Nat.le_of_eq hG1.symm
    have HO0 := Lib.hid (World.ownsRow_nil w1 G1 3 1)
    have HBB := Lib.hid hB
    obtain ⟨g0, g1, g2, g3, g4⟩ := HS1.out.cells
    have HLT : Hid (∀ k, (s2.take k).filter (· != sn) = (s2.take k).filter (· != sn)) := fun _ => rfl
    have HLL : Hid ((s2.take m).filter (· != sn) = M.left sn ⟨s0, s1, s3, s4, s2⟩) := by unfold Hid; rw [List.take_of_length_le (Nat.le_of_eq HM.out)]; rfl
    have HLN : Hid (∀ k, ((s2.take k).filter (· != sn)).length ≤ k) := fun k => Nat.le_trans (List.length_filter_le _ _) (by rw [List.length_take]; omega)
    have HZs : Hid (∀ W, Below G1 w1 W → Sl W 1 m (.slice au m cu) (intsV s2)) := fun W hW => HZ.out.below (by rw [HG1.out]; exact hW)
    have HBs : Hid (∀ W, Below G1 w1 W → Sb W B ⟨s0, s1, s3, s4, .slice au m cu⟩) := fun W hW => HS1.out.below hW hBG
    have hb0 : Hid (Below G1 w1 w1) := Below.refl _ _
    obtain ⟨c, hcl⟩ : ∃ c, (M.left sn ⟨s0, s1, s3, s4, s2⟩).length = c := ⟨_, rfl⟩
    rw [hcl, HM.out] at HR HR2
    have HCL := Lib.hid hcl
    clear hcl
    clear hf hr hr2 h h2 hG h1 hc hu hs hN hm hzs hG1 HZ HLT
    go_enter Tryd.func51, Tryd.ntmps51
    go_wp2_with fail
    refine HF.out.mono ?_
    rintro e w' ⟨rfl, rfl⟩
    clear HF
    go_wp2_with fail
    clear hB hw1 p0 p1 p2 p3 p4 g0 g1 g2 g3 g4
    go_loopw [12, 13] (fun t i wr => ∃ k : Nat, k ≤ m ∧ i = .int .i64 k ∧ Hid (wr.ownsRow G1 3 1 t ((s2.take k).filter (· != sn)).length (intsV ((s2.take k).filter (· != sn)))) ∧ Hid (Below G1 w1 wr)) (fun _ i _ => m - (intOf i).toNat)
    case atStart => exact ⟨0, by omega, rfl, HO0, hb0⟩
    case round =>
      clear HO0 hb0
      obtain ⟨k, hk, rfl, HO, hbr⟩ := hrel
      obtain ⟨g0, g1, g2, g3, g4⟩ := (HBs.out wr hbr.out).cells
      simp only [] at g0 g1 g2 g3 g4
      have hln := HLN.out k
      by_cases hkm : k < m
      · have hkI : (k : Int) < (m : Int) := by omega
        have hk0 : (0 : Int) ≤ (k : Int) := by omega
        obtain ⟨ba, oa, rfl, hcc⟩ := (HZs.out wr hbr.out).at (j := k) (by simp [intsV, HM.out]; exact hkm)
        have hck := hcc k (by simp [intsV, HM.out]; exact hkm)
        have HST : Hid ((s2.take (k + 1)).filter (· != sn) = (s2.take k).filter (· != sn) ++ (if (s2[k]'(by rw [HM.out]; exact hkm)) != sn then [s2[k]'(by rw [HM.out]; exact hkm)] else [])) := by
          unfold Hid
          rw [List.take_succ_eq_append_getElem (by rw [HM.out]; exact hkm), List.filter_append]
          congr 1
          cases hx : (s2[k]'(by rw [HM.out]; exact hkm)) != sn <;> simp [hx]
        simp only [intsV, List.getElem_map] at hck
        obtain ⟨x, hx⟩ : ∃ x, (s2[k]'(by rw [HM.out]; exact hkm)) = x := ⟨_, rfl⟩
        rw [hx] at hck HST
        obtain ⟨d, hcl⟩ : ∃ d, ((s2.take k).filter (· != sn)).length = d := ⟨_, rfl⟩
        rw [hcl] at HO hln
        have HDL := Lib.hid hcl
        clear hcc hx hcl
        cases hne : (x != sn) with
        | true =>
          have HST2 : Hid ((s2.take (k + 1)).filter (· != sn) = (s2.take k).filter (· != sn) ++ [x]) := by unfold Hid; rw [HST.out, hne]; rfl
          have HO6 := Lib.hid (World.ownsRow.alloc HO.out (.cells #[.int .i64 x] 3))
          have HS6 : Hid (Sl (wr.alloc (.cells #[.int .i64 x] 3)) 1 1 (.slice (some ⟨wr.heap.size, 0, none⟩) 1 1) (intsV [x])) := Sl.lit wr 3 1 1 #[.int .i64 x] (0, 0) rfl (by decide)
          have hG5 : G1 ≤ wr.heap.size := Nat.le_trans hG4 hbr.out.size
          have HB6 : Hid (Below G1 w1 (wr.alloc (.cells #[.int .i64 x] 3))) := hbr.out.alloc hG5 _
          have hG6 : G1 ≤ (wr.alloc (.cells #[.int .i64 x] 3)).heap.size := by simp; omega
          clear HO hbr HST
          go_wp2_with (at_builtin; go_must (refine wpList_append_sl rfl _ _ 24 rfl G1 3 _ 1 8 Tryd.underlying24 infoI64 rfl (by decide) _ _ _ rfl HO6.out _ 1 (intsV [x]) rfl HS6.out (ints_oneCell _) (by unfold maxLen; omega) (by omega) hG6 ?_))
          intro v7 w7 hown7 hgrow hnn
          clear hnn g0 g1 g2 g3 g4 hck
          have hbr : Hid (Below G1 w1 w7) := HB6.out.grown hgrow hG6 (ownBlock_ge HO6.out)
          have HO7 : Hid (w7.ownsRow G1 3 1 v7 ((s2.take (k + 1)).filter (· != sn)).length (intsV ((s2.take (k + 1)).filter (· != sn)))) := by
            unfold Hid
            rw [HST2.out, List.length_append, HDL.out]
            simpa [intsV] using hown7
          clear hown7 hgrow HO6 HS6 HB6 hG6 hG5 HST2
          go_wp2_with fail
          go_roundw
          case rel => exact ⟨k + 1, by omega, by go_num, HO7, hbr⟩
          case measure => simp [intOf]; omega
        | false =>
          have HO7 : Hid (wr.ownsRow G1 3 1 u12 ((s2.take (k + 1)).filter (· != sn)).length (intsV ((s2.take (k + 1)).filter (· != sn)))) := by
            unfold Hid
            rw [HST.out, hne, if_neg (by decide), List.append_nil, HDL.out]
            exact HO.out
          clear HO HST
          go_wp2_with fail
          go_roundw
          case rel => exact ⟨k + 1, by omega, by go_num, HO7, hbr⟩
          case measure => simp [intOf]; omega
      · have hkI : ¬ ((k : Int) < (m : Int)) := by omega
        obtain rfl : m = k := by omega
        rw [HLL.out] at HO hln
        rw [HCL.out] at HO hln
        clear HLL HLN
        obtain ⟨a7, c7, rfl, -⟩ := (Sl.of_owns HO.out).shape
        have hbf : Hid (Below w.heap.size w wr) := HB1.out.trans (hbr.out.mono (by have := HB1.out.size; rw [HG1.out] at this; exact this))
        by_cases hcm : c = m
        · have hcm1 : ((c : Int) == (m : Int)) = true := by simp [hcm]
          have hcm2 : (c != m) = false := by simp [hcm]
          have hcm3 : decide (c = m) = true := by simp [hcm]
          have HFin := Lib.hid (HH.out.below hbf.out)
          have HC2 := Lib.hid hcm2
          clear hcm2 HO hcm
          go_wp2_with fail
          go_ret2
          exact ⟨_, by rw [HR2.out, HC2.out]; rfl, ⟨_, by rw [HR.out, HC2.out, if_neg (by decide)]; exact HFin.out⟩, hbf.out⟩
        · have hcm2 : (c != m) = true := by simp [hcm]
          have hcm1 : ((c : Int) == (m : Int)) = false := by rw [beq_eq_false_iff_ne]; omega
          have hlt : c < m := by omega
          have HC2 := Lib.hid hcm2
          have HS7 := HBs.out wr hbr.out
          have f2 := HS7.frozen 2
          have HS8 := HS7.set2 (.slice a7 c c7)
          have HO9 : Hid ((wr.setCell ⟨B, 2, none⟩ (.slice a7 c c7)).ownsRow G1 3 1 (.slice a7 c c7) c (intsV (M.left sn ⟨s0, s1, s3, s4, s2⟩))) :=
            own_ex HO.out (fun k hk e => by have := ownBlock_ge HO.out k hk; omega) (Ex.setCell (G := fun k => k = B) wr B 2 rfl (.slice a7 c c7))
          have HB9 : Hid (Below w.heap.size w (wr.setCell ⟨B, 2, none⟩ (.slice a7 c c7))) := hbf.out.setCell (p := ⟨B, 2, none⟩) (by show w.heap.size ≤ B; rw [HBB.out]; exact Nat.le_refl _) _
          obtain ⟨k0, k1, k2, k3, k4⟩ := HS8.cells
          simp only [] at k0 k1 k2 k3 k4
          have st := Lib.hid (HW.out _ HB9.out s0 s1 s3 s4 a7 c c7)
          clear HS7 HS8 HO hbf hcm hcm2 HW hln hk hkm hkI
          go_wp2_with fail
          refine st.out.mono ?_
          rintro e w11 ⟨v11, rfl, hown, hbel⟩
          have HB11 := Lib.hid (below_next HB9.out hbel)
          replace hown := Lib.hid (ownsRow.base hown HB9.out.size)
          have HO11 := Lib.hid (ownsRow.below HO9.out hbel)
          clear hbel st HB9 HO9 k0 k1 k2 k3 k4 f2
          go_wp2_with fail
          go_ret2
          refine ⟨_, us.set i (.slice a7 c c7), by rw [HR2.out, HC2.out]; rfl, ?_, HB11.out⟩
          rw [HR.out, HC2.out, if_pos rfl, HMore.out]
          refine Sv.set (s := ⟨s0, s1, s3, s4, M.left sn ⟨s0, s1, s3, s4, s2⟩⟩) (u := .slice a7 c c7) HH.out HG.out HI.out HN.out.symm hown.out HB11.out ?_
          have hZ := Fz.own HO11.out (fun k hk => by have := HG.out k hk; rw [HBB.out] at this; omega)
          refine hZ.imp fun W h => ?_
          unfold Zs
          rw [HCL.out]
          exact h
end Go.Proofs.YtmapmeacjpoaoaaDoor
namespace Go.Proofs.YtmapmeacjpoaoaaDoor
open Go Go.RowKit

def Rec.cs (r : Rec) : List Value := [.int .i64 r.actor, .int .i64 r.fro, .int .i64 r.dst, .string (str r.bucket), .string (str r.key), .int .u32 (r.digest : Int)]
def recCells (l : List Rec) : List Value := l.flatMap Rec.cs
theorem rec_len (l : List Rec) : (recCells l).length = l.length * 6 := cells_len Rec.cs 6 (fun _ => rfl) l
theorem rec_append (l m : List Rec) : recCells l ++ recCells m = recCells (l ++ m) := by simp [recCells]
theorem rec_oneCell (l : List Rec) : ∀ u ∈ recCells l, u.oneCell' = true := by
  intro u hu
  obtain ⟨r, -, h⟩ := List.mem_flatMap.1 hu
  simp only [Rec.cs, List.mem_cons, List.not_mem_nil, or_false] at h
  rcases h with rfl | rfl | rfl | rfl | rfl | rfl <;> rfl
/-- The slice value v reads as the records l. -/
def Rv (w : World) (v : Value) (l : List Rec) : Prop := Sl w 6 l.length v (recCells l)
theorem Rv.below {w w' : World} {v : Value} {l : List Rec} (h : Rv w v l) (hb : Below w.heap.size w w') : Rv w' v l := Sl.below h hb
theorem Rv.nil (w : World) : Rv w (.slice none 0 0) [] := Sl.nil w 6
theorem recCells_take : ∀ (l : List Rec) (k : Nat), (recCells l).take (k * 6) = recCells (l.take k)
  | _, 0 => by simp [recCells]
  | [], k + 1 => by simp [recCells]
  | r :: l, k + 1 => by
    have e : (k + 1) * 6 = (Rec.cs r).length + k * 6 := by simp [Rec.cs]; omega
    have e2 : recCells (r :: l) = Rec.cs r ++ recCells l := rfl
    have e3 : recCells ((r :: l).take (k + 1)) = Rec.cs r ++ recCells (l.take k) := rfl
    rw [e2, e3, ← recCells_take l k, e, List.take_append, List.take_of_length_le (by omega), Nat.add_sub_cancel_left]
theorem recCells_drop : ∀ (l : List Rec) (k : Nat), (recCells l).drop (k * 6) = recCells (l.drop k)
  | _, 0 => by simp [recCells]
  | [], k + 1 => by simp [recCells]
  | r :: l, k + 1 => by
    have e : (k + 1) * 6 = (Rec.cs r).length + k * 6 := by simp [Rec.cs]; omega
    have e2 : recCells (r :: l) = Rec.cs r ++ recCells l := rfl
    have e3 : recCells ((r :: l).drop (k + 1)) = recCells (l.drop k) := rfl
    rw [e2, e3, ← recCells_drop l k, e, List.drop_append, List.drop_of_length_le (by omega), Nat.add_sub_cancel_left]
    simp
theorem infoRec : (Tryd.prog.info? 112).map (fun i => (i.zero, i.size, i.bytes)) = some (some (.agg #[.int .i64 0, .int .i64 0, .int .i64 0, .string (str []), .string (str []), .int .u32 0]), 6, 64) := by kernel_rfl
theorem infoEs : (Tryd.prog.info? 92).map (fun i => (i.zero, i.size, i.bytes)) = some (some (.slice none 0 0), 1, 24) := by kernel_rfl
theorem infoRs : (Tryd.prog.info? 43).map (fun i => (i.zero, i.size, i.bytes)) = some (some (.slice none 0 0), 1, 24) := by kernel_rfl
theorem infoP : (Tryd.prog.info? 107).map (fun i => (i.zero, i.size, i.bytes)) = some (some (.agg #[.int .i64 0, .int .i64 0, .int .i64 0, .slice none 0 0]), 4, 48) := by kernel_rfl

/-- The slice value v reads as a list for each label; us: their slices. -/
structure Lv (w : World) (v : Value) (us : List Value) (l : List (List En)) : Prop where
  len : us.length = l.length
  sl : Sl w 1 l.length v us
  each : ∀ i (h : i < us.length) (h2 : i < l.length), Es w us[i] l[i]
theorem Lv.below {w w' : World} {v : Value} {us : List Value} {l : List (List En)} (h : Lv w v us l) (hb : Below w.heap.size w w') : Lv w' v us l := ⟨h.len, h.sl.below hb, fun i a b => Sl.below (h.each i a b) hb⟩
/-- A row of one block, from its head. -/
abbrev slv (b n : Nat) : Value := .slice (some ⟨b, 0, none⟩) n n
/-- Where a model's parts lie. -/
structure Mv where
  bL : Nat
  bA : Nat
  bH : Nat
  bD : Nat
  ls : List Value
  aa : List Value
  ds : List Value
  vs : Value
  us : List Value
  vp : Value
  ps : List (Value × List Value)
/-- What no operation writes anew. -/
structure Fr (W : World) (X : Mv) (m : St) : Prop where
  L : ∀ i (h : i < X.ls.length) (h2 : i < m.L.length), Es W X.ls[i] m.L[i]
  A : ∀ i (h : i < X.aa.length) (h2 : i < m.au.length), Rv W X.aa[i] m.au[i]
  D : ∀ i (h : i < X.ds.length) (h2 : i < m.dr.length), Es W X.ds[i] m.dr[i]
  S : Sv W X.vs X.us m.ses
  P : ∀ i (h : i < X.ps.length) (h2 : i < m.sn.length), Lv W X.ps[i].1 X.ps[i].2 m.sn[i].l
theorem Fr.below {w w' : World} {X : Mv} {m : St} (h : Fr w X m) (hb : Below w.heap.size w w') : Fr w' X m :=
  ⟨fun i a b => Sl.below (h.L i a b) hb, fun i a b => (h.A i a b).below hb, fun i a b => Sl.below (h.D i a b) hb, h.S.below hb, fun i a b => (h.P i a b).below hb⟩
/-- The blocks of a model that operations write. -/
structure Mb (w : World) (B n : Nat) (vn vu vq vg : Value) (X : Mv) (m : St) : Prop where
  hd : w.heap[B]? = some (.cells #[vn, vu, vq, vg, slv X.bL n, slv X.bA n, slv X.bH n, slv X.bD n, X.vs, X.vp] 64 (0, 0))
  oL : w.ownsRow 0 92 1 (slv X.bL n) n X.ls
  oA : w.ownsRow 0 43 1 (slv X.bA n) n X.aa
  oH : w.ownsRow 0 3 1 (slv X.bH n) n (intsV m.has)
  oD : w.ownsRow 0 92 1 (slv X.bD n) n X.ds
  oP : w.ownsRow 0 107 4 X.vp m.sn.length (snpCells (List.zipWith Snp4.put m.sn (X.ps.map (·.1))))
  lp : X.ps.length = m.sn.length
  nL : m.L.length = n
  nA : m.au.length = n
  nH : m.has.length = n
  nD : m.dr.length = n
theorem Mb.lt {w : World} {B n : Nat} {vn vu vq vg : Value} {X : Mv} {m : St} (h : Mb w B n vn vu vq vg X m) : B < w.heap.size := (Array.getElem?_eq_some_iff.1 h.hd).1
theorem Mb.below {w w' : World} {B n : Nat} {vn vu vq vg : Value} {X : Mv} {m : St} (h : Mb w B n vn vu vq vg X m) (hb : Below w.heap.size w w') : Mb w' B n vn vu vq vg X m :=
  ⟨(hb.block B h.lt).trans h.hd, ownsRow.below h.oL hb, ownsRow.below h.oA hb, ownsRow.below h.oH hb, ownsRow.below h.oD hb, ownsRow.below h.oP hb, h.lp, h.nL, h.nA, h.nH, h.nD⟩
theorem own_len {w : World} {base t n : Nat} {v : Value} {cs : List Value} (h : w.ownsRow base t 1 v n cs) : cs.length = n := by have := h.1; omega
/-- The cells of the model's own block. -/
structure Hd (W : World) (B n : Nat) (vn vu vq vg : Value) (X : Mv) : Prop where
  c0 : W.cell? ⟨B, 0, none⟩ = some vn
  c1 : W.cell? ⟨B, 1, none⟩ = some vu
  c2 : W.cell? ⟨B, 2, none⟩ = some vq
  c3 : W.cell? ⟨B, 3, none⟩ = some vg
  c4 : W.cell? ⟨B, 4, none⟩ = some (slv X.bL n)
  c5 : W.cell? ⟨B, 5, none⟩ = some (slv X.bA n)
  c6 : W.cell? ⟨B, 6, none⟩ = some (slv X.bH n)
  c7 : W.cell? ⟨B, 7, none⟩ = some (slv X.bD n)
  c8 : W.cell? ⟨B, 8, none⟩ = some X.vs
  c9 : W.cell? ⟨B, 9, none⟩ = some X.vp
theorem Mb.cells {w : World} {B n : Nat} {vn vu vq vg : Value} {X : Mv} {m : St} (h : Mb w B n vn vu vq vg X m) : Hd w B n vn vu vq vg X :=
  ⟨cell_of_row w B 0 _ _ (0, 0) h.hd, cell_of_row w B 1 _ _ (0, 0) h.hd, cell_of_row w B 2 _ _ (0, 0) h.hd, cell_of_row w B 3 _ _ (0, 0) h.hd, cell_of_row w B 4 _ _ (0, 0) h.hd, cell_of_row w B 5 _ _ (0, 0) h.hd, cell_of_row w B 6 _ _ (0, 0) h.hd, cell_of_row w B 7 _ _ (0, 0) h.hd, cell_of_row w B 8 _ _ (0, 0) h.hd, cell_of_row w B 9 _ _ (0, 0) h.hd⟩
theorem own_at {w : World} {base t n b : Nat} {cs : List Value} (h : w.ownsRow base t 1 (slv b n) n cs) {i : Nat} (hi : i < n) : w.cell? ⟨b, i, none⟩ = some (cs[i]'(by rw [own_len h]; exact hi)) := by
  rw [h.cellAt i (by omega)]
  exact List.getElem?_eq_getElem _
/-- A model that can be read. -/
structure Mr (w : World) (B n : Nat) (vn vu vq vg : Value) (X : Mv) (m : St) : Prop where
  b : Mb w B n vn vu vq vg X m
  f : Fr w X m
theorem Mr.below {w w' : World} {B n : Nat} {vn vu vq vg : Value} {X : Mv} {m : St} (h : Mr w B n vn vu vq vg X m) (hb : Below w.heap.size w w') : Mr w' B n vn vu vq vg X m := ⟨h.b.below hb, h.f.below hb⟩
theorem Mr.listL {w : World} {B n : Nat} {vn vu vq vg : Value} {X : Mv} {m : St} (h : Mr w B n vn vu vq vg X m) {i : Nat} (hi : i < n) : ∃ u, X.ls[i]? = some u ∧ w.cell? ⟨X.bL, i, none⟩ = some u ∧ Es w u (m.L.getD i []) := by
  have h1 := own_len h.b.oL
  have h2 := h.b.nL
  refine ⟨X.ls[i]'(by omega), List.getElem?_eq_getElem _, own_at h.b.oL hi, ?_⟩
  rw [List.getD_eq_getElem?_getD, List.getElem?_eq_getElem (by omega), Option.getD_some]
  exact h.f.L i (by omega) (by omega)
theorem Mr.listD {w : World} {B n : Nat} {vn vu vq vg : Value} {X : Mv} {m : St} (h : Mr w B n vn vu vq vg X m) {i : Nat} (hi : i < n) : ∃ u, X.ds[i]? = some u ∧ w.cell? ⟨X.bD, i, none⟩ = some u ∧ Es w u (m.dr.getD i []) := by
  have h1 := own_len h.b.oD
  have h2 := h.b.nD
  refine ⟨X.ds[i]'(by omega), List.getElem?_eq_getElem _, own_at h.b.oD hi, ?_⟩
  rw [List.getD_eq_getElem?_getD, List.getElem?_eq_getElem (by omega), Option.getD_some]
  exact h.f.D i (by omega) (by omega)
theorem Mr.listA {w : World} {B n : Nat} {vn vu vq vg : Value} {X : Mv} {m : St} (h : Mr w B n vn vu vq vg X m) {i : Nat} (hi : i < n) : ∃ u, X.aa[i]? = some u ∧ w.cell? ⟨X.bA, i, none⟩ = some u ∧ Rv w u (m.au.getD i []) := by
  have h1 := own_len h.b.oA
  have h2 := h.b.nA
  refine ⟨X.aa[i]'(by omega), List.getElem?_eq_getElem _, own_at h.b.oA hi, ?_⟩
  rw [List.getD_eq_getElem?_getD, List.getElem?_eq_getElem (by omega), Option.getD_some]
  exact h.f.A i (by omega) (by omega)
theorem Mr.hasAt {w : World} {B n : Nat} {vn vu vq vg : Value} {X : Mv} {m : St} (h : Mr w B n vn vu vq vg X m) {i : Nat} (hi : i < n) : w.cell? ⟨X.bH, i, none⟩ = some (.int .i64 (m.has.getD i 0)) := by
  have h2 := h.b.nH
  rw [own_at h.b.oH hi]
  simp only [intsV, List.getElem_map]
  rw [List.getD_eq_getElem?_getD, List.getElem?_eq_getElem (by omega), Option.getD_some]

/-- A result as it is handed on. -/
abbrev resv (e n : Int) (vr vc : Value) : Value := .agg #[.int .i64 e, .int .i64 n, vr, .int .i64 0, .int .i64 0, .int .i64 0, .int .i64 0, vc]
/-- A block of a result. -/
def Rb (w : World) (B : Nat) (e n : Int) (vr vc : Value) : Prop := w.heap[B]? = some (.cells #[.int .i64 e, .int .i64 n, vr, .int .i64 0, .int .i64 0, .int .i64 0, .int .i64 0, vc] 45 (0, 0))
theorem Rb.lt {w : World} {B : Nat} {e n : Int} {vr vc : Value} (h : Rb w B e n vr vc) : B < w.heap.size := (Array.getElem?_eq_some_iff.1 h).1
theorem Rb.later {w w' : World} {B : Nat} {e n : Int} {vr vc : Value} (h : Rb w B e n vr vc) (hb : Below w.heap.size w w') : Rb w' B e n vr vc := (hb.block B h.lt).trans h
theorem Rb.cells {w : World} {B : Nat} {e n : Int} {vr vc : Value} (h : Rb w B e n vr vc) : w.cell? ⟨B, 0, none⟩ = some (.int .i64 e) ∧ w.cell? ⟨B, 1, none⟩ = some (.int .i64 n) ∧ w.cell? ⟨B, 2, none⟩ = some vr ∧ w.cell? ⟨B, 3, none⟩ = some (.int .i64 0) ∧ w.cell? ⟨B, 4, none⟩ = some (.int .i64 0) ∧ w.cell? ⟨B, 5, none⟩ = some (.int .i64 0) ∧ w.cell? ⟨B, 6, none⟩ = some (.int .i64 0) ∧ w.cell? ⟨B, 7, none⟩ = some vc :=
  ⟨cell_of_row w B 0 _ _ (0, 0) h, cell_of_row w B 1 _ _ (0, 0) h, cell_of_row w B 2 _ _ (0, 0) h, cell_of_row w B 3 _ _ (0, 0) h, cell_of_row w B 4 _ _ (0, 0) h, cell_of_row w B 5 _ _ (0, 0) h, cell_of_row w B 6 _ _ (0, 0) h, cell_of_row w B 7 _ _ (0, 0) h⟩

theorem res_results {fn : Func} {p : Tmp} (h : fn.results = #[.cell p 45]) (tmps : Array Value) (w : World) (b : Nat) (e n : Int) (vr vc : Value) (hp : tmps.getD p undef = .pointer (some ⟨b, 0, none⟩)) (hc : Rb w b e n vr vc) :
    (results fn tmps).run Tryd.prog w = .ok (resv e n vr vc) w := by
  obtain ⟨c0, c1, c2, c3, c4, c5, c6, c7⟩ := hc.cells
  rw [results_cell h, hp]
  go_simp

theorem not_any (e : Int) (w : World) : Calls Tryd.prog 21 #[.int .i64 e] w fun r w' => r = .returned (resv e 0 (.slice none 0 0) (.slice none 0 0)) ∧ Below w.heap.size w w' := by
  go_enter Tryd.func21, Tryd.ntmps21
  go_wp2_with fail
  refine bodyPost_ret (res_results rfl _ _ w.heap.size e 0 (.slice none 0 0) (.slice none 0 0) rfl (heap_alloc_new w _)) rfl ?_
  exact ⟨rfl, (Below.refl _ _).alloc (Nat.le_refl _) _⟩

/-- A result stored into its block. -/
def rbw (w : World) (B : Nat) (e n : Int) (vr vc : Value) : World := (((((((w.setCell ⟨B, 0, none⟩ (.int .i64 e)).setCell ⟨B, 1, none⟩ (.int .i64 n)).setCell ⟨B, 2, none⟩ vr).setCell ⟨B, 3, none⟩ (.int .i64 0)).setCell ⟨B, 4, none⟩ (.int .i64 0)).setCell ⟨B, 5, none⟩ (.int .i64 0)).setCell ⟨B, 6, none⟩ (.int .i64 0)).setCell ⟨B, 7, none⟩ vc
theorem Rb.put {w : World} {B : Nat} {e0 n0 : Int} {vr0 vc0 : Value} (h : Rb w B e0 n0 vr0 vc0) (e n : Int) (vr vc : Value) : Rb (rbw w B e n vr vc) B e n vr vc := by
  unfold Rb at h ⊢
  simp [rbw, World.setCell, Array.getElem?_modify, h]
theorem Rb.go {w : World} {B : Nat} {e0 n0 : Int} {vr0 vc0 : Value} (h : Rb w B e0 n0 vr0 vc0) (k : Nat) : w.frozen? ⟨B, k, none⟩ = false := frozen_of_row w B k _ _ h
theorem bset {w0 w : World} {G B : Nat} (h : Below G w0 w) (hB : G ≤ B) (i : Nat) (v : Value) : Below G w0 (w.setCell ⟨B, i, none⟩ v) := h.setCell (p := ⟨B, i, none⟩) hB v
theorem below_rbw {w0 w : World} {G B : Nat} (h : Below G w0 w) (hB : G ≤ B) (e n : Int) (vr vc : Value) : Below G w0 (rbw w B e n vr vc) := by
  unfold rbw
  have h0 := bset h hB 0 (.int .i64 e)
  have h1 := bset h0 hB 1 (.int .i64 n)
  have h2 := bset h1 hB 2 vr
  have h3 := bset h2 hB 3 (.int .i64 0)
  have h4 := bset h3 hB 4 (.int .i64 0)
  have h5 := bset h4 hB 5 (.int .i64 0)
  have h6 := bset h5 hB 6 (.int .i64 0)
  exact bset h6 hB 7 vc
theorem ex_rbw {G : Nat → Prop} {w0 w : World} {B : Nat} (h : Ex G w0 w) (hB : w0.heap.size ≤ B) (e n : Int) (vr vc : Value) : Ex G w0 (rbw w B e n vr vc) := by
  have hx := below_rbw (Below.refl B w) (Nat.le_refl B) e n vr vc
  generalize rbw w B e n vr vc = w' at *
  exact ⟨hx.os.trans h.os, hx.tape.trans h.tape, hx.output.trans h.output, Nat.le_trans h.size hx.size, fun k hk hg => (hx.block k (by omega)).trans (h.block k hk hg)⟩
end Go.Proofs.YtmapmeacjpoaoaaDoor
namespace Go.Proofs.YtmapmeacjpoaoaaDoor
open Go Go.RowKit

def M.nms : List (List UInt8) := [[111, 112, 101, 110], [99, 108, 111, 115, 101], [98, 101, 103, 105, 110], [99, 111, 109, 109, 105, 116], [114, 111, 108, 108, 98, 97, 99, 107], [109, 97, 107, 101], [100, 114, 111, 112], [112, 117, 116], [100, 101, 108, 101, 116, 101], [103, 101, 116], [115, 99, 97, 110], [115, 110, 97, 112], [117, 110, 115, 110, 97, 112], [99, 111, 117, 110, 116], [97, 117, 100, 105, 116], [100, 101, 99, 108, 97, 115, 115, 105, 102, 121], [99, 114, 97, 115, 104]]
theorem names_any (w : World) : Calls Tryd.prog 42 #[] w fun e w' => ∃ a, e = .returned (.slice a 17 17) ∧ Ks w' (.slice a 17 17) M.nms ∧ Below w.heap.size w w' := by
  have hk : Hid (Ks (w.alloc (.cells #[.string (str [111, 112, 101, 110]), .string (str [99, 108, 111, 115, 101]), .string (str [98, 101, 103, 105, 110]), .string (str [99, 111, 109, 109, 105, 116]), .string (str [114, 111, 108, 108, 98, 97, 99, 107]), .string (str [109, 97, 107, 101]), .string (str [100, 114, 111, 112]), .string (str [112, 117, 116]), .string (str [100, 101, 108, 101, 116, 101]), .string (str [103, 101, 116]), .string (str [115, 99, 97, 110]), .string (str [115, 110, 97, 112]), .string (str [117, 110, 115, 110, 97, 112]), .string (str [99, 111, 117, 110, 116]), .string (str [97, 117, 100, 105, 116]), .string (str [100, 101, 99, 108, 97, 115, 115, 105, 102, 121]), .string (str [99, 114, 97, 115, 104])] 9)) (.slice (some ⟨w.heap.size, 0, none⟩) 17 17) M.nms) := Sl.lit w 9 1 17 #[.string (str [111, 112, 101, 110]), .string (str [99, 108, 111, 115, 101]), .string (str [98, 101, 103, 105, 110]), .string (str [99, 111, 109, 109, 105, 116]), .string (str [114, 111, 108, 108, 98, 97, 99, 107]), .string (str [109, 97, 107, 101]), .string (str [100, 114, 111, 112]), .string (str [112, 117, 116]), .string (str [100, 101, 108, 101, 116, 101]), .string (str [103, 101, 116]), .string (str [115, 99, 97, 110]), .string (str [115, 110, 97, 112]), .string (str [117, 110, 115, 110, 97, 112]), .string (str [99, 111, 117, 110, 116]), .string (str [97, 117, 100, 105, 116]), .string (str [100, 101, 99, 108, 97, 115, 115, 105, 102, 121]), .string (str [99, 114, 97, 115, 104])] (0, 0) rfl (by decide)
  have hb : Hid (Below w.heap.size w (w.alloc (.cells #[.string (str [111, 112, 101, 110]), .string (str [99, 108, 111, 115, 101]), .string (str [98, 101, 103, 105, 110]), .string (str [99, 111, 109, 109, 105, 116]), .string (str [114, 111, 108, 108, 98, 97, 99, 107]), .string (str [109, 97, 107, 101]), .string (str [100, 114, 111, 112]), .string (str [112, 117, 116]), .string (str [100, 101, 108, 101, 116, 101]), .string (str [103, 101, 116]), .string (str [115, 99, 97, 110]), .string (str [115, 110, 97, 112]), .string (str [117, 110, 115, 110, 97, 112]), .string (str [99, 111, 117, 110, 116]), .string (str [97, 117, 100, 105, 116]), .string (str [100, 101, 99, 108, 97, 115, 115, 105, 102, 121]), .string (str [99, 114, 97, 115, 104])] 9))) := (Below.refl _ _).alloc (Nat.le_refl _) _
  go_enter Tryd.func42, Tryd.ntmps42
  go_wp2_with fail
  go_ret
  exact ⟨_, rfl, hk.out, hb.out⟩
def M.isK (k : Int) : Bool := decide (0 ≤ k) && decide (k ≤ 16)
theorem mname_any (k : Int) (w : World) : Calls Tryd.prog 17 #[.int .i64 k] w fun e w' => ∃ s, e = .returned (.string (str s)) ∧ s.isEmpty = !M.isK k ∧ Below w.heap.size w w' := by
  have hn := Lib.hid (names_any w)
  by_cases h0 : k < 0
  · have d0 : decide (0 ≤ k) = false := by simp; omega
    have hr : Hid (M.isK k = false) := by unfold Hid M.isK; rw [d0]; rfl
    clear d0
    go_enter Tryd.func17, Tryd.ntmps17
    go_wp2_with fail
    refine hn.out.mono ?_
    rintro e w1 ⟨a, rfl, hk, hb⟩
    have hb := Lib.hid hb
    clear hk hn
    go_wp2_with fail
    go_ret
    exact ⟨[], rfl, by rw [hr.out]; rfl, hb.out⟩
  · by_cases h1 : 17 ≤ k
    · have d0 : decide (k ≤ 16) = false := by simp; omega
      have hr : Hid (M.isK k = false) := by unfold Hid M.isK; rw [d0, Bool.and_false]
      clear d0
      go_enter Tryd.func17, Tryd.ntmps17
      go_wp2_with fail
      refine hn.out.mono ?_
      rintro e w1 ⟨a, rfl, hk, hb⟩
      have hb := Lib.hid hb
      clear hk hn
      go_wp2_with fail
      go_ret
      exact ⟨[], rfl, by rw [hr.out]; rfl, hb.out⟩
    · obtain ⟨j, rfl⟩ : ∃ j : Nat, k = (j : Int) := ⟨k.toNat, by omega⟩
      have hj : j < 17 := by omega
      have hr : Hid (M.isK (j : Int) = true) := by unfold Hid M.isK; simp; omega
      have hne : Hid ((M.nms[j]'(by exact hj)).isEmpty = false) := by
        have : ∀ j (h : j < 17), (M.nms[j]'(by exact h)).isEmpty = false := by decide
        exact this j hj
      go_enter Tryd.func17, Tryd.ntmps17
      go_wp2_with fail
      refine hn.out.mono ?_
      rintro e w1 ⟨a, rfl, hk, hb⟩
      obtain ⟨b, off, rfl, hc⟩ := hk.at (j := j) (by exact hj)
      have hcj := hc w1 (Below.refl _ _) j hj
      have hb := Lib.hid hb
      obtain ⟨x, hx⟩ : ∃ x, (M.nms[j]'(by exact hj)) = x := ⟨_, rfl⟩
      rw [hx] at hcj hne
      clear hk hn hc hx
      go_wp2_with fail
      go_ret
      exact ⟨x, rfl, by rw [hr.out, hne.out]; rfl, hb.out⟩
theorem M.check_eq (n : Nat) (o : Opr) : M.check n o = (M.isK o.kind && (decide (o.kind = 16) || (decide (0 ≤ o.level) && decide (o.level < n)))) := by unfold M.check M.isK; rfl
set_option maxHeartbeats 1000000 in
theorem chk_any (n : Nat) (o : Opr) (u : Value) (w : World) : Calls Tryd.prog 6 #[.int .i64 n, opv (o.put u)] w fun e w' => e = .returned (.bool (M.check n o)) ∧ Below w.heap.size w w' := by
  have hr := Lib.hid (M.check_eq n o)
  obtain ⟨o0, o1, o2, o3, o4, o5, o6, o7, o8, o9, k⟩ := o
  simp only [] at hr
  have HN : Hid (∀ W, Below w.heap.size w W → Calls Tryd.prog 17 #[.int .i64 o0] W fun e w' => ∃ s, e = .returned (.string (str s)) ∧ s.isEmpty = !M.isK o0 ∧ Below W.heap.size W w') := fun W _ => mname_any o0 W
  have hb1 : Hid (Below w.heap.size w (w.alloc (.cells #[.int .i64 o0, .int .i64 o1, .int .i64 o2, .int .i64 o3, .string (str o4), .string (str o5), .string (str o6), .int .i64 o7, .int .i64 o8, .int .i64 o9, u] 33))) := (Below.refl _ _).alloc (Nat.le_refl _) _
  have hB : Hid (Bop (w.alloc (.cells #[.int .i64 o0, .int .i64 o1, .int .i64 o2, .int .i64 o3, .string (str o4), .string (str o5), .string (str o6), .int .i64 o7, .int .i64 o8, .int .i64 o9, u] 33)) w.heap.size ⟨o0, o1, o2, o3, o4, o5, o6, o7, o8, o9, u⟩) := heap_alloc_new w _
  have st := Lib.hid (HN.out _ hb1.out)
  simp only [Op11.put]
  go_enter Tryd.func6, Tryd.ntmps6
  go_wp2_with fail
  refine st.out.mono ?_
  rintro e w2 ⟨s, rfl, hs, hb⟩
  have hb2 := Lib.hid (below_next hb1.out hb)
  obtain ⟨p0, p1, -⟩ := (hB.out.later hb).at
  simp only [Nat.zero_add] at p0 p1
  clear st HN hb hb1 hB
  cases hk : M.isK o0 with
  | false =>
    rw [hk] at hs hr
    have hs2 : s = [] := by cases s with | nil => rfl | cons _ _ => simp at hs
    subst hs2
    clear hs hk
    go_wp2_with fail
    go_ret
    exact ⟨by rw [hr.out]; rfl, hb2.out⟩
  | true =>
    rw [hk] at hs hr
    have hs2 : s.isEmpty = false := hs
    have hs3 : ¬ s = [] := by intro h; subst h; simp at hs
    clear hs hk
    by_cases h16 : o0 = 16
    · have d1 : (o0 == 16) = true := by simp [h16]
      have d2 : decide (o0 = 16) = true := by simp [h16]
      rw [d2] at hr
      clear h16
      go_wp2_with fail
      go_ret
      exact ⟨by rw [hr.out]; rfl, hb2.out⟩
    · have d1 : (o0 == 16) = false := by simp [h16]
      have d2 : decide (o0 = 16) = false := by simp [h16]
      rw [d2] at hr
      clear h16
      by_cases h0 : 0 ≤ o1
      · have d3 : decide (0 ≤ o1) = true := by simpa using h0
        rw [d3] at hr
        go_wp2_with fail
        go_ret
        exact ⟨by rw [hr.out]; simp, hb2.out⟩
      · have d3 : decide (0 ≤ o1) = false := by simpa using h0
        rw [d3] at hr
        go_wp2_with fail
        go_ret
        exact ⟨by rw [hr.out]; rfl, hb2.out⟩
end Go.Proofs.YtmapmeacjpoaoaaDoor
namespace Go.Proofs.YtmapmeacjpoaoaaDoor
open Go Go.RowKit

abbrev opc (o : Opr) (u : Value) : Array Value := #[.int .i64 o.kind, .int .i64 o.level, .int .i64 o.ses, .int .i64 o.snap, .string (str o.bucket), .string (str o.key), .string (str o.val), .int .i64 o.label, .int .i64 o.to, .int .i64 o.n, u]
/-- What a method of the model finds: the operation in its box, and the model. -/
structure Ent (w w1 : World) (Qo B n : Nat) (vn vu vq vg : Value) (X : Mv) (m : St) (o : Opr) (u : Value) : Prop where
  bx : w.heap.size = Qo
  lo : Qo < w1.heap.size
  b : Below w.heap.size w w1
  op : Bop w1 Qo (o.put u)
  m : Mr w1 B n vn vu vq vg X m
theorem Ent.box {w : World} {B n : Nat} {vn vu vq vg : Value} {X : Mv} {m : St} (h : Mr w B n vn vu vq vg X m) (o : Opr) (u : Value) : Ent w (w.alloc (.cells (opc o u) 33)) w.heap.size B n vn vu vq vg X m o u :=
  ⟨rfl, by simp, (Below.refl _ _).alloc (Nat.le_refl _) _, heap_alloc_new w _, h.below ((Below.refl _ _).alloc (Nat.le_refl _) _)⟩
theorem Ent.alloc {w w1 : World} {Qo B n : Nat} {vn vu vq vg : Value} {X : Mv} {m : St} {o : Opr} {u : Value} (h : Ent w w1 Qo B n vn vu vq vg X m o u) {w2 : World} (hb : Below w1.heap.size w1 w2) : Ent w w2 Qo B n vn vu vq vg X m o u :=
  ⟨h.bx, Nat.lt_of_lt_of_le h.lo hb.size, below_next h.b hb, h.op.later hb, h.m.below hb⟩
/-- The operation's fields. -/
theorem Ent.at {w w1 : World} {Qo B n : Nat} {vn vu vq vg : Value} {X : Mv} {m : St} {o : Opr} {u : Value} (h : Ent w w1 Qo B n vn vu vq vg X m o u) {W : World} (hb : Below w1.heap.size w1 W) :
    (W.cell? ⟨Qo, 0, none⟩ = some (.int .i64 o.kind) ∧ W.cell? ⟨Qo, 1, none⟩ = some (.int .i64 o.level) ∧ W.cell? ⟨Qo, 2, none⟩ = some (.int .i64 o.ses) ∧ W.cell? ⟨Qo, 3, none⟩ = some (.int .i64 o.snap) ∧ W.cell? ⟨Qo, 4, none⟩ = some (.string (str o.bucket)) ∧ W.cell? ⟨Qo, 5, none⟩ = some (.string (str o.key)) ∧ W.cell? ⟨Qo, 6, none⟩ = some (.string (str o.val)) ∧ W.cell? ⟨Qo, 7, none⟩ = some (.int .i64 o.label) ∧ W.cell? ⟨Qo, 8, none⟩ = some (.int .i64 o.to) ∧ W.cell? ⟨Qo, 9, none⟩ = some (.int .i64 o.n) ∧ W.cell? ⟨Qo, 10, none⟩ = some u) := by
  obtain ⟨c0, c1, c2, c3, c4, c5, c6, c7, c8, c9, c10⟩ := (h.op.later hb).at
  simp only [Nat.zero_add] at c0 c1 c2 c3 c4 c5 c6 c7 c8 c9 c10
  exact ⟨c0, c1, c2, c3, c4, c5, c6, c7, c8, c9, c10⟩

set_option maxHeartbeats 1000000 in
theorem has_any (w : World) (B n : Nat) (vn vu vq vg : Value) (X : Mv) (m : St) (o : Opr) (u : Value) (h : Mr w B n vn vu vq vg X m) :
    Calls Tryd.prog 46 #[.pointer (some ⟨B, 0, none⟩), opv (o.put u)] w fun e w' => e = .returned (.bool (M.has m o)) ∧ Below w.heap.size w w' := by
  have hE := Ent.box h o u
  obtain ⟨w1, hw1⟩ : ∃ w1, w.alloc (.cells (opc o u) 33) = w1 := ⟨_, rfl⟩
  obtain ⟨Qo, hQo⟩ : ∃ Qo, w.heap.size = Qo := ⟨_, rfl⟩
  rw [hw1, hQo] at hE
  have HE := Lib.hid hE
  have HR : Hid (M.has m o = (M.snapsOf m.ses o.level o.ses).any (· == o.snap)) := rfl
  obtain ⟨o0, o1, o2, o3, o4, o5, o6, o7, o8, o9, k⟩ := o
  simp only [Op11.put, opc] at hw1 ⊢
  clear h hE
  go_enter Tryd.func46, Tryd.ntmps46
  go_wp2_with fail
  clear hw1 hQo
  refine wp_region_mix ext_grow [(0, false), (1, false), (2, false), (3, false), (4, false), (5, false), (6, false), (7, false), (8, true), (9, false)] (by kernel_rfl) (by kernel_rfl) ?_
  have hb1 : Below w1.heap.size w1 w1.drew := (Below.refl _ _).drew
  have HE1 := Lib.hid (HE.out.alloc hb1)
  clear hb1 HE
  generalize w1.drew = w2 at *
  have q8 : ∀ z : Later w2, z.1.cell? ⟨B, 8, none⟩ = some X.vs := fun z => (HE1.out.m.b.below z.2).cells.c8
  have p1 : ∀ z : Later w2, z.1.cell? ⟨Qo, 1, none⟩ = some (.int .i64 o1) := fun z => (HE1.out.at z.2).2.1
  have p2 : ∀ z : Later w2, z.1.cell? ⟨Qo, 2, none⟩ = some (.int .i64 o2) := fun z => (HE1.out.at z.2).2.2.1
  repeat (refine mix_soft rfl (fun K hK => ?_); go_simp; (first | (refine hK _ ?_; clear hK K) | (apply Exists.intro; refine ⟨fun z => ?_, hK _ ?_⟩; (first | done); clear hK K)))
  clear q8 p1 p2
  refine mix_loud rfl (fun K hK => ?_)
  go_simp
  intro x
  refine (ssnaps_any X.vs X.us m.ses o1 o2 x.1 (HE1.out.m.f.S.below x.2)).mono ?_
  rintro e w3 ⟨v3, rfl, hz, rfl⟩
  refine ⟨_, rfl, Below.refl _ _, hK _ _ ?_⟩
  clear hK K
  have HZ := Lib.hid hz
  have HE2 := Lib.hid (HE1.out.alloc x.2)
  clear HE1 hz
  generalize x.1 = w3 at *
  clear x
  repeat (refine mix_soft rfl (fun K hK => ?_); go_simp; (first | (refine hK _ ?_; clear hK K) | (apply Exists.intro; refine ⟨fun z => ?_, hK _ ?_⟩; (first | done); clear hK K)))
  refine mix_done fun w4 hx => ?_
  have HE4 := Lib.hid (HE2.out.alloc hx)
  have HZ4 : Hid (Zs w4 v3 (M.snapsOf m.ses o1 o2)) := Sl.below HZ.out hx
  clear HE2 HZ hx
  obtain ⟨l, hl⟩ : ∃ l, M.snapsOf m.ses o1 o2 = l := ⟨_, rfl⟩
  rw [hl] at HZ4
  simp only [hl] at HR
  clear hl
  obtain ⟨a, c, rfl, -⟩ := Sl.shape HZ4.out
  have hbig : l.length ≤ 9223372036854775807 := by
    obtain ⟨_, _, _, e, h1, h2, _⟩ := HZ4.out
    unfold maxLen at h2
    omega
  obtain ⟨N, hN⟩ : ∃ N, l.length = N := ⟨_, rfl⟩
  have HN := Lib.hid hN
  have HZ5 : Hid (Sl w4 1 N (.slice a N c) (intsV l)) := by rw [← hN]; exact HZ4.out
  rw [hN] at hbig ⊢
  clear hN HZ4
  have hb0 : Hid (Below w4.heap.size w4 w4) := Below.refl _ _
  go_wp2_with fail
  go_loopw [6] (fun i wr => ∃ k : Nat, k ≤ N ∧ i = .int .i64 k ∧ Hid ((l.take k).any (· == o3) = false) ∧ Hid (Below w4.heap.size w4 wr)) (fun i _ => N - (intOf i).toNat)
  case atStart => exact ⟨0, by omega, rfl, rfl, hb0⟩
  case round =>
    clear hb0
    obtain ⟨k, hk, rfl, HA, hbr⟩ := hrel
    by_cases hkn : k < N
    · have hkI : (k : Int) < (N : Int) := by omega
      have hk0 : (0 : Int) ≤ (k : Int) := by omega
      obtain ⟨b, off, rfl, hc⟩ := (HZ5.out.below hbr.out).at (j := k) (by simp [intsV, HN.out]; exact hkn)
      have hck := hc k (by simp [intsV, HN.out]; exact hkn)
      simp only [intsV, List.getElem_map] at hck
      have p3 := (HE4.out.at hbr.out).2.2.2.1
      have HST : Hid ((l.take (k + 1)).any (· == o3) = ((l.take k).any (· == o3) || ((l[k]'(by rw [HN.out]; exact hkn)) == o3))) := by
        unfold Hid
        rw [List.take_succ_eq_append_getElem (by rw [HN.out]; exact hkn), List.any_append]
        simp
      have HIN : Hid (((l[k]'(by rw [HN.out]; exact hkn)) == o3) = true → l.any (· == o3) = true) := fun h => List.any_eq_true.2 ⟨_, List.getElem_mem _, h⟩
      obtain ⟨x, hx⟩ : ∃ x, (l[k]'(by rw [HN.out]; exact hkn)) = x := ⟨_, rfl⟩
      rw [hx] at hck HST HIN
      clear hx hc
      cases h1 : (x == o3) with
      | true =>
        have hfin := Lib.hid (HIN.out h1)
        have d1 : decide (x = o3) = true := by simpa using h1
        clear HST HIN
        go_wp2_with fail
        go_quiet (fail)
        clear hck p3
        go_wp2_with fail
        go_ret
        exact ⟨by rw [HR.out, hfin.out]; rfl, by rw [HE4.out.bx]; exact (HE4.out.bx ▸ below_next HE4.out.b (below_next hbr.out (below_drewN _ _)))⟩
      | false =>
        have d1 : decide (x = o3) = false := by simpa using h1
        have hfin : Hid ((l.take (k + 1)).any (· == o3) = false) := by unfold Hid; rw [HST.out, HA.out, h1]; rfl
        clear HST HIN
        go_wp2_with fail
        go_quiet (fail)
        clear hck p3
        go_wp2_with fail
        go_roundw
        case rel => exact ⟨k + 1, by omega, by go_num, hfin, below_next hbr.out (below_drewN _ _)⟩
        case measure => simp [intOf]; omega
    · have hkI : ¬ ((k : Int) < (N : Int)) := by omega
      obtain rfl : k = N := by omega
      have hfin : Hid (l.any (· == o3) = false) := by
        have := HA.out
        rwa [List.take_of_length_le (Nat.le_of_eq HN.out)] at this
      have hbf := Lib.hid (below_next HE4.out.b hbr.out)
      go_wp2_with fail
      go_ret
      exact ⟨by rw [HR.out, hfin.out]; rfl, hbf.out⟩
end Go.Proofs.YtmapmeacjpoaoaaDoor
