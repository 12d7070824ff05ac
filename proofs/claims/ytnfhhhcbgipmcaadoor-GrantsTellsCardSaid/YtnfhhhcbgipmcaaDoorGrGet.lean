/- What grants.Get returns. -/
import Derived.Test.YtnfhhhcbgipmcaaDoorSrc3
import Derived.Test.YtnfhhhcbgipmcaaDoorRefTaker
namespace Go.Proofs.YtnfhhhcbgipmcaaDoor
open Go Go.RowKit

namespace L
/-- Behind k of the three bytes of a grant. -/
def gst (l : List UInt8) (e : Int) : Nat → List UInt8 × Int
  | 0 => (l, e)
  | k + 1 => (T.tl 1 (gst l e k).1 (gst l e k).2, T.te 1 (gst l e k).1 (gst l e k).2)
def gval (l : List UInt8) (e : Int) (k : Nat) : Nat := T.tv 1 (gst l e k).1 (gst l e k).2
def ggr (l : List UInt8) (e : Int) : Gr := ((gval l e 0 : Int), (gval l e 1 : Int), (gval l e 2 : Int))
def ggots : Nat → List UInt8 → Int → List Gr × List UInt8 × Int
  | 0, l, e => ([], l, e)
  | k + 1, l, e => ((ggots k l e).1 ++ [ggr (ggots k l e).2.1 (ggots k l e).2.2], (gst (ggots k l e).2.1 (ggots k l e).2.2 3).1, (gst (ggots k l e).2.1 (ggots k l e).2.2 3).2)
theorem ggots_length : ∀ k l e, (ggots k l e).1.length = k
  | 0, l, e => rfl
  | k + 1, l, e => by simp [ggots, ggots_length k l e]
def gotG (l : List UInt8) : List Gr × List UInt8 × Int := ggots (T.tv 1 l 0) (T.tl 1 l 0) (T.te 1 l 0)
theorem gotG_length (l : List UInt8) : (gotG l).1.length = T.tv 1 l 0 := ggots_length _ _ _
def ggetE (l : List UInt8) : Int := if (gotG l).2.2 = 0 then if (gotG l).1.length ≤ 64 ∧ (gotG l).2.1 = [] then 0 else 11 else (gotG l).2.2
def gget (l : List UInt8) : List Gr := if ggetE l = 0 then (gotG l).1 else []
theorem ggetE_bad {l : List UInt8} (h : (gotG l).2.2 ≠ 0) : ggetE l = (gotG l).2.2 ∧ gget l = [] := by
  have e : ggetE l = (gotG l).2.2 := by unfold ggetE; rw [if_neg h]
  exact ⟨e, by unfold gget; rw [e, if_neg h]⟩
theorem ggetE_form {l : List UInt8} (h : (gotG l).2.2 = 0) (h2 : ¬ ((gotG l).1.length ≤ 64 ∧ (gotG l).2.1 = [])) : ggetE l = 11 ∧ gget l = [] := by
  have e : ggetE l = 11 := by unfold ggetE; rw [if_pos h, if_neg h2]
  exact ⟨e, by unfold gget; rw [e]; rfl⟩
theorem ggetE_good {l : List UInt8} (h : (gotG l).2.2 = 0) (h2 : (gotG l).1.length ≤ 64) (h3 : (gotG l).2.1 = []) : ggetE l = 0 ∧ gget l = (gotG l).1 := by
  have e : ggetE l = 0 := by unfold ggetE; rw [if_pos h, if_pos ⟨h2, h3⟩]
  exact ⟨e, by unfold gget; rw [e]; rfl⟩
end L

/-- A block that is known whole. -/
def Bl (w : World) (g : Nat) (t : TypeId) (cs : Array Value) : Prop := w.heap[g]? = some (.cells cs t (0, 0))
theorem Bl.lt {w : World} {g : Nat} {t : TypeId} {cs : Array Value} (h : Bl w g t cs) : g < w.heap.size := (Array.getElem?_eq_some_iff.1 h).1
theorem Bl.cell {w : World} {g : Nat} {t : TypeId} {cs : Array Value} (h : Bl w g t cs) (i : Nat) : w.cell? ⟨g, i, none⟩ = cs[i]? := cell_of_row w g i cs t (0, 0) h
theorem Bl.frozen {w : World} {g : Nat} {t : TypeId} {cs : Array Value} (h : Bl w g t cs) (i : Nat) : w.frozen? ⟨g, i, none⟩ = false := frozen_of_row w g i cs t h
theorem Bl.but {w w' : World} {g B : Nat} {t : TypeId} {cs : Array Value} (h : Bl w g t cs) (hb : But B w w') (hne : g ≠ B) : Bl w' g t cs := (hb.block g hne).trans h
theorem Bl.far {w : World} {g : Nat} {t : TypeId} {cs : Array Value} (h : Bl w g t cs) {p : Addr} (hp : g ≠ p.block) (u : Value) : Bl (w.setCell p u) g t cs := (Below.heap_setCell w p u g hp).trans h
theorem Bl.set_ {w : World} {g : Nat} {t : TypeId} {cs : Array Value} (h : Bl w g t cs) (i : Nat) (u : Value) : Bl (w.setCell ⟨g, i, none⟩ u) g t (cs.setIfInBounds i u) := heap_setCell_same w g i cs t u h
theorem Tk.far {w : World} {B : Nat} {v : Value} {e : Int} (h : Tk w B v e) {p : Addr} (hp : B ≠ p.block) (u : Value) : Tk (w.setCell p u) B v e := (Below.heap_setCell w p u B hp).trans h
theorem ownsRow.far {w : World} {base t sz n : Nat} {u : Value} {cs : List Value} (h : w.ownsRow base t sz u n cs) {p : Addr} (hp : some p.block ≠ u.ownBlock) (x : Value) : (w.setCell p x).ownsRow base t sz u n cs := by
  refine ⟨h.1, ?_⟩
  rcases h.2 with h2 | ⟨g, cap, cur, rfl, hg, hh, r⟩
  · exact .inl h2
  · exact .inr ⟨g, cap, cur, rfl, hg, by rw [Below.heap_setCell w p x g (fun e => hp (by simp [Value.ownBlock, e]))]; exact hh, r⟩
theorem own_lt {w : World} {base t sz n : Nat} {u : Value} {cs : List Value} (h : w.ownsRow base t sz u n cs) : ∀ k, u.ownBlock = some k → k < w.heap.size := fun k hk => (h.lt k hk).2

/-- The cells of the grant that is filled, behind k of its bytes. -/
def gcs (l : List UInt8) (e : Int) (k : Nat) : Array Value := #[.int .i64 (if 0 < k then (L.gval l e 0 : Int) else 0), .int .i64 (if 1 < k then (L.gval l e 1 : Int) else 0), .int .i64 (if 2 < k then (L.gval l e 2 : Int) else 0)]
theorem gcs_set {l : List UInt8} {e : Int} {k : Nat} (h : k < 3) : (gcs l e k).setIfInBounds k (.int .i64 (L.gval l e k : Int)) = gcs l e (k + 1) := by
  match k, h with
  | 0, _ => simp [gcs]
  | 1, _ => simp [gcs]
  | 2, _ => simp [gcs]
theorem gcs_get {l : List UInt8} {e : Int} {k : Nat} (h : k < 3) : (gcs l e k)[k]? = some (.int .i64 0) := by
  match k, h with
  | 0, _ => simp [gcs]
  | 1, _ => simp [gcs]
  | 2, _ => simp [gcs]
def ptrs (G : Nat) : Array Value := #[.pointer (some ⟨G, 0, none⟩), .pointer (some ⟨G, 1, none⟩), .pointer (some ⟨G, 2, none⟩)]
theorem ptrs_get {G k : Nat} (h : k < 3) : (ptrs G)[k]? = some (.pointer (some ⟨G, k, none⟩)) := by
  match k, h with
  | 0, _ => rfl
  | 1, _ => rfl
  | 2, _ => rfl

set_option maxRecDepth 4000 in
set_option maxHeartbeats 2000000 in
theorem ggetO_any (v : Value) (l : List UInt8) (w : World) (h : Bs w v l) (hl : l.length ≤ 100000) :
    Calls Tryd.prog 44 #[v] w fun e w' => ∃ v', e = .returned (.tuple #[v', .int .i64 (L.ggetE l)]) ∧ w'.ownsRow w.heap.size 47 3 v' (L.gget l).length (GR.cells (L.gget l)) ∧ Below w.heap.size w w' := by
  have HT := Lib.hid (take_any v l w h hl)
  clear h
  go_enter Tryd.func44, Tryd.ntmps44
  go_wp2_with fail
  refine HT.out.mono ?_
  rintro e w1 ⟨B, v1, w0, rfl, ht⟩
  clear HT
  have HN := Lib.hid (tnum_any B 1 v1 l 0 w0 w1 (by decide) (by decide) ht.tk ht.bs ht.next ht.at_)
  rw [show ((1 : Nat) : Int) = 1 from rfl] at HN
  have HF := Lib.hid ht.first
  have HX := Lib.hid ht.next
  have HB := Lib.hid ht.at_
  clear ht
  go_wp2_with fail
  refine HN.out.mono ?_
  rintro e w2 ⟨v2, rfl, hk⟩
  have hb2 : Below w0.heap.size w0 w2 := HX.out.trans (hk.but.below HB.out)
  have HK := Lib.hid hk.tk
  have HBS := Lib.hid hk.bs
  have h256 := T.tv_one l 0
  have HG := Lib.hid (show L.gotG l = L.ggots (T.tv 1 l 0) (T.tl 1 l 0) (T.te 1 l 0) from rfl)
  clear hk HN HX
  obtain ⟨N, hN⟩ : ∃ N, T.tv 1 l 0 = N := ⟨_, rfl⟩
  obtain ⟨l1, hl1⟩ : ∃ x, T.tl 1 l 0 = x := ⟨_, rfl⟩
  obtain ⟨e1, he1⟩ : ∃ x, T.te 1 l 0 = x := ⟨_, rfl⟩
  rw [hN] at h256 ⊢
  rw [hN, hl1, he1] at HG
  rw [he1] at HK
  rw [hl1] at HBS
  clear hN hl1 he1
  go_wp2_with fail
  go_loopw [5, 14] (fun t i wr => ∃ (k : Nat) (vk : Value), k ≤ N ∧ i = .int .u64 k ∧ Hid (wr.ownsRow w0.heap.size 47 3 t k (GR.cells (L.ggots k l1 e1).1)) ∧ Hid (Tk wr B vk (L.ggots k l1 e1).2.2) ∧ Hid (Bs w0 vk (L.ggots k l1 e1).2.1) ∧ Below w0.heap.size w0 wr) (fun _ i _ => N - (intOf i).toNat)
  case atStart => exact ⟨0, _, by omega, rfl, World.ownsRow_nil _ _ _ _, HK, HBS, hb2⟩
  case round =>
    clear hb2 HK HBS
    obtain ⟨k, vk, hk, rfl, hr, htk, hbs, hbr⟩ := hrel
    by_cases hkN : k < N
    · have hs : Hid (L.ggots (k + 1) l1 e1 = ((L.ggots k l1 e1).1 ++ [L.ggr (L.ggots k l1 e1).2.1 (L.ggots k l1 e1).2.2], (L.gst (L.ggots k l1 e1).2.1 (L.ggots k l1 e1).2.2 3).1, (L.gst (L.ggots k l1 e1).2.1 (L.ggots k l1 e1).2.2 3).2)) := rfl
      generalize (L.ggots k l1 e1).2.1 = lk at *
      generalize (L.ggots k l1 e1).2.2 = ek at *
      generalize (L.ggots k l1 e1).1 = xs at *
      go_wp2_with fail
      obtain ⟨w3, hw3⟩ : ∃ w3, (wr.alloc (.cells #[.int .i64 0, .int .i64 0, .int .i64 0] 47)).alloc (.cells #[.pointer (some ⟨wr.heap.size, 0, none⟩), .pointer (some ⟨wr.heap.size, 1, none⟩), .pointer (some ⟨wr.heap.size, 2, none⟩)] 85) = w3 := ⟨_, rfl⟩
      have q1 : Bl w3 wr.heap.size 47 (gcs lk ek 0) := by
        unfold Bl
        rw [← hw3]
        exact (Below.heap_alloc _ _ _ (by simp)).trans (heap_alloc_new _ _)
      have q2 : Bl w3 (wr.heap.size + 1) 85 (ptrs wr.heap.size) := by
        have := heap_alloc_new (wr.alloc (.cells #[.int .i64 0, .int .i64 0, .int .i64 0] 47)) (.cells #[.pointer (some ⟨wr.heap.size, 0, none⟩), .pointer (some ⟨wr.heap.size, 1, none⟩), .pointer (some ⟨wr.heap.size, 2, none⟩)] 85)
        rw [World.size_alloc, hw3] at this
        exact this
      have q3 : w3.ownsRow w0.heap.size 47 3 u5 k (GR.cells xs) := by rw [← hw3]; exact (hr.out.alloc _).alloc _
      have hbel3 : Below wr.heap.size wr w3 := by rw [← hw3]; exact ((Below.refl _ _).alloc (Nat.le_refl _) _).alloc (by simp) _
      have q4 : Tk w3 B vk ek := Tk.below htk.out hbel3 htk.out.lt
      have q5 : Below w0.heap.size w0 w3 := below_next hbr hbel3
      have hBG : B < wr.heap.size := htk.out.lt
      have hneG : some wr.heap.size ≠ u5.ownBlock := fun e => by have := own_lt hr.out _ e.symm; omega
      have hneB : some B ≠ u5.ownBlock := own_ne htk.out hr.out (by decide)
      rw [hw3]
      obtain ⟨G, hG⟩ : ∃ G, wr.heap.size = G := ⟨_, rfl⟩
      rw [hG] at q1 q2 hBG hneG ⊢
      have Q1 := Lib.hid q1
      have Q2 := Lib.hid q2
      have Q3 := Lib.hid q3
      have Q4 := Lib.hid q4
      have HNG := Lib.hid hneG
      have HNB := Lib.hid hneB
      clear q1 q2 q3 q4 hbel3 hw3 hG hr htk hbr hneG hneB
      go_loopw [21] (fun i wr => ∃ (j : Nat) (vj : Value), j ≤ 3 ∧ i = .int .i64 j ∧ Hid (wr.ownsRow w0.heap.size 47 3 u5 k (GR.cells xs)) ∧ Hid (Tk wr B vj (L.gst lk ek j).2) ∧ Hid (Bs w0 vj (L.gst lk ek j).1) ∧ Hid (Bl wr G 47 (gcs lk ek j)) ∧ Hid (Bl wr (G + 1) 85 (ptrs G)) ∧ Below w0.heap.size w0 wr) (fun i _ => 3 - (intOf i).toNat)
      case atStart => exact ⟨0, vk, by omega, rfl, Q3, Q4, hbs, Q1, Q2, q5⟩
      case round =>
        clear Q1 Q2 Q3 Q4 hbs q5
        obtain ⟨j, vj, hj, rfl, Q3, Q4, hbs, Q1, Q2, hbr⟩ := hrel
        by_cases hj3 : j < 3
        · have pc := (Q2.out.cell j).trans (ptrs_get hj3)
          have HN := Lib.hid (tnum_any B 1 vj _ _ w0 _ (by decide) (by decide) Q4.out hbs.out hbr HB.out)
          rw [show ((1 : Nat) : Int) = 1 from rfl] at HN
          have hjI : (j : Int) < 3 := by omega
          have hval : Hid (T.tv 1 (L.gst lk ek j).1 (L.gst lk ek j).2 = L.gval lk ek j) := rfl
          have hst : Hid (L.gst lk ek (j + 1) = (T.tl 1 (L.gst lk ek j).1 (L.gst lk ek j).2, T.te 1 (L.gst lk ek j).1 (L.gst lk ek j).2)) := rfl
          have hg256 := T.tv_one (L.gst lk ek j).1 (L.gst lk ek j).2
          generalize (L.gst lk ek j).1 = lj at *
          generalize (L.gst lk ek j).2 = ej at *
          obtain ⟨d, hd⟩ : ∃ d, T.tv 1 lj ej = d := ⟨_, rfl⟩
          rw [hd] at HN hval hg256
          clear hd
          go_wp2_with fail
          refine HN.out.mono ?_
          rintro e w5 ⟨v5, rfl, ht⟩
          have hb5 : Below w0.heap.size w0 w5 := hbr.trans (ht.but.below HB.out)
          have R3 := Lib.hid (ownsRow.but Q4.out ht.but Q3.out (by decide))
          have R1 := Lib.hid (Q1.out.but ht.but (by omega))
          have R2 := Lib.hid (Q2.out.but ht.but (by omega))
          have R4 := Lib.hid ht.tk
          have R5 := Lib.hid ht.bs
          have c0 := (R1.out.cell j).trans (gcs_get hj3)
          have f0 := R1.out.frozen j
          have S1 : Hid (Bl (w5.setCell ⟨G, j, none⟩ (.int .i64 (d : Int))) G 47 (gcs lk ek (j + 1))) := by
            have := R1.out.set_ j (.int .i64 (d : Int))
            rw [hval.out, gcs_set hj3, ← hval.out] at this
            exact this
          have S2 := Lib.hid (R2.out.far (p := ⟨G, j, none⟩) (by simp) (.int .i64 (d : Int)))
          have S3 := Lib.hid (ownsRow.far R3.out (p := ⟨G, j, none⟩) HNG.out (.int .i64 (d : Int)))
          have S4 : Hid (Tk (w5.setCell ⟨G, j, none⟩ (.int .i64 (d : Int))) B v5 (L.gst lk ek (j + 1)).2) := by rw [hst.out]; exact R4.out.far (p := ⟨G, j, none⟩) (by simp; omega) _
          have S5 : Hid (Bs w0 v5 (L.gst lk ek (j + 1)).1) := by rw [hst.out]; exact R5.out
          have hb6 := hb5.setCell (p := ⟨G, j, none⟩) (by simp; have := HB.out; omega) (.int .i64 (d : Int))
          clear ht HN Q1 Q2 Q3 Q4 hbs hbr pc R1 R2 R3 R4 R5 hb5 hval hst
          go_wp2_with fail
          go_roundw
          case rel => exact ⟨j + 1, v5, by omega, by go_num, S3, S4, S5, S1, S2, hb6⟩
          case measure => simp [intOf]; omega
        · obtain rfl : j = 3 := by omega
          have c0 : wr.cell? ⟨G, 0, none⟩ = some (.int .i64 (L.gval lk ek 0 : Int)) := by have := Q1.out.cell 0; simpa [gcs] using this
          have c1 : wr.cell? ⟨G, 1, none⟩ = some (.int .i64 (L.gval lk ek 1 : Int)) := by have := Q1.out.cell 1; simpa [gcs] using this
          have c2 : wr.cell? ⟨G, 2, none⟩ = some (.int .i64 (L.gval lk ek 2 : Int)) := by have := Q1.out.cell 2; simpa [gcs] using this
          have hgr : Hid (L.ggr lk ek = ((L.gval lk ek 0 : Int), (L.gval lk ek 1 : Int), (L.gval lk ek 2 : Int))) := rfl
          generalize L.gval lk ek 0 = g0 at *
          generalize L.gval lk ek 1 = g1 at *
          generalize L.gval lk ek 2 = g2 at *
          have HO := Lib.hid (Q3.out.alloc (.cells #[.int .i64 (g0 : Int), .int .i64 (g1 : Int), .int .i64 (g2 : Int)] 47))
          have HS : Hid (Sl (wr.alloc (.cells #[.int .i64 (g0 : Int), .int .i64 (g1 : Int), .int .i64 (g2 : Int)] 47)) 3 1 (.slice (some ⟨wr.heap.size, 0, none⟩) 1 1) (GR.cells [((g0 : Int), (g1 : Int), (g2 : Int))])) := Sl.lit wr 47 3 1 #[.int .i64 (g0 : Int), .int .i64 (g1 : Int), .int .i64 (g2 : Int)] (0, 0) rfl (by decide)
          have hb6 := hbr.alloc hbr.size (.cells #[.int .i64 (g0 : Int), .int .i64 (g1 : Int), .int .i64 (g2 : Int)] 47)
          have hT6 : Hid (Tk (wr.alloc (.cells #[.int .i64 (g0 : Int), .int .i64 (g1 : Int), .int .i64 (g2 : Int)] 47)) B vj (L.gst lk ek 3).2) := Tk.below Q4.out ((Below.refl _ wr).alloc (Nat.le_refl _) _) Q4.out.lt
          clear Q1 Q2 Q3 Q4 hbr
          go_wp2_with (at_builtin; go_must (refine wpList_append_sl rfl _ _ 44 rfl w0.heap.size 47 _ 3 24 Tryd.underlying44 infoGr rfl (by decide) _ _ _ rfl HO.out _ 1 (GR.cells [((g0 : Int), (g1 : Int), (g2 : Int))]) rfl HS.out (gr_oneCell _) (by unfold maxLen; omega) (by omega) hb6.size ?_))
          intro v7 w7 hown7 hgrow _
          have hrel : Hid (w7.ownsRow w0.heap.size 47 3 v7 (k + 1) (GR.cells (L.ggots (k + 1) l1 e1).1)) := by
            unfold Hid; rw [hs.out, GR.cells_append, hgr.out]; exact hown7
          have hk7 : Hid (Tk w7 B vj (L.ggots (k + 1) l1 e1).2.2) := by
            unfold Hid; rw [hs.out]
            exact Tk.grown hT6.out hgrow HNB.out
          have hs7 : Hid (Bs w0 vj (L.ggots (k + 1) l1 e1).2.1) := by unfold Hid; rw [hs.out]; exact hbs.out
          have hb7 : Below w0.heap.size w0 w7 := hb6.grown hgrow hb6.size (ownBlock_ge HO.out)
          clear hown7 hgrow HO HS hT6 hb6 hs hbs c0 c1 c2
          go_wp2_with fail
          go_roundw
          case rel => exact ⟨k + 1, vj, by omega, by go_num, hrel, hk7, hs7, hb7⟩
          case measure => simp [intOf]; omega
    · obtain rfl : k = N := by omega
      rw [← HG.out] at hr htk hbs
      have HE := Lib.hid (err_any B vk _ wr htk.out)
      have hbw : Below w.heap.size w wr := below_next HF.out hbr
      have hgs : Gs wr u5 (L.gotG l).1 := Three.Ss.of_owns hr.out
      have hlen : (L.gotG l).1.length = k := by rw [HG.out]; exact L.ggots_length _ _ _
      obtain ⟨ao5, cap5, hu5, -⟩ := hgs.shape
      rw [hlen] at hu5
      subst hu5
      have HGS : Hid (wr.ownsRow w.heap.size 47 3 (.slice ao5 k cap5) (L.gotG l).1.length (GR.cells (L.gotG l).1)) := by rw [hlen]; exact ownsRow.base hr.out HF.out.size
      clear hr hkN hk hgs
      by_cases hz : (L.gotG l).2.2 = 0
      · rw [hz] at HE htk
        have HDN := Lib.hid (fun W (hW : Below wr.heap.size wr W) => done_any B vk _ 0 w0 W (htk.out.below hW htk.out.lt) hbs.out)
        clear htk hbs
        by_cases h64 : 64 < k
        · have d64 : decide ((64 : Int) < (k : Int)) = true := by simp; omega
          have hf := Lib.hid (L.ggetE_form hz (fun h => by have := h.1; omega))
          clear hz HG h64 hlen
          go_wp2_with fail
          refine HE.out.mono ?_
          rintro e w' ⟨rfl, rfl⟩
          go_wp2_with fail
          go_ret2
          exact ⟨_, by rw [hf.out.1]; rfl, by rw [hf.out.2]; exact World.ownsRow_nil _ _ _ _, hbw⟩
        · have d64 : decide ((64 : Int) < (k : Int)) = false := by simp; omega
          by_cases hd : (L.gotG l).2.1 = []
          · have hf := Lib.hid (L.ggetE_good hz (by omega) hd)
            rw [hd, show T.done [] 0 = 0 from rfl] at HDN
            clear hz hd HG h64 hlen
            go_wp2_with fail
            refine HE.out.mono ?_
            rintro e w' ⟨rfl, rfl⟩
            go_wp2_with fail
            refine (HDN.out _ (Below.refl _ _)).mono ?_
            rintro e w' ⟨rfl, rfl⟩
            go_wp2_with fail
            go_ret2
            exact ⟨_, by rw [hf.out.1]; rfl, by rw [hf.out.2]; exact HGS.out, hbw⟩
          · have hf := Lib.hid (L.ggetE_form hz (fun h => hd h.2))
            rw [show T.done (L.gotG l).2.1 0 = 11 by simp [T.done, hd]] at HDN
            clear hz hd HG h64 hlen
            go_wp2_with fail
            refine HE.out.mono ?_
            rintro e w' ⟨rfl, rfl⟩
            go_wp2_with fail
            refine (HDN.out _ (Below.refl _ _)).mono ?_
            rintro e w' ⟨rfl, rfl⟩
            go_wp2_with fail
            go_ret2
            exact ⟨_, by rw [hf.out.1]; rfl, by rw [hf.out.2]; exact World.ownsRow_nil _ _ _ _, hbw⟩
      · have hf := Lib.hid (L.ggetE_bad hz)
        obtain ⟨ee, hee⟩ : ∃ ee, (L.gotG l).2.2 = ee := ⟨_, rfl⟩
        rw [hee] at HE hf hz
        have de : (ee != 0) = true := by simp [hz]
        clear hee hz HG htk hbs hlen
        go_wp2_with fail
        refine HE.out.mono ?_
        rintro e w' ⟨rfl, rfl⟩
        go_wp2_with fail
        go_ret2
        exact ⟨_, by rw [hf.out.1]; rfl, by rw [hf.out.2]; exact World.ownsRow_nil _ _ _ _, hbw⟩

theorem gget_any (v : Value) (l : List UInt8) (w : World) (h : Bs w v l) (hl : l.length ≤ 100000) :
    Calls Tryd.prog 44 #[v] w fun e w' => ∃ v', e = .returned (.tuple #[v', .int .i64 (L.ggetE l)]) ∧ Gs w' v' (L.gget l) ∧ Below w.heap.size w w' :=
  (ggetO_any v l w h hl).mono fun _ _ ⟨v', h1, h2, h3⟩ => ⟨v', h1, Three.Ss.of_owns h2, h3⟩
/-- What is owned stays where what is owned of another type grows. -/
theorem ownsRow.beside {w w' : World} {base t sz n : Nat} {u : Value} {cs : List Value} (h : w.ownsRow base t sz u n cs) {base2 t2 sz2 n2 : Nat} {v : Value} {ds : List Value} (h2 : w.ownsRow base2 t2 sz2 v n2 ds) (ht : t ≠ t2) (hg : w.grownBy w' v.ownBlock) : w'.ownsRow base t sz u n cs := by
  refine ⟨h.1, ?_⟩
  rcases h.2 with h1 | ⟨g, cap, cur, rfl, hb, hh, r⟩
  · exact .inl h1
  · refine .inr ⟨g, cap, cur, rfl, hb, ?_, r⟩
    rw [hg.block g (Array.getElem?_eq_some_iff.1 hh).1 (fun e => ?_)]
    · exact hh
    · rcases h2.2 with ⟨rfl, -⟩ | ⟨g2, cap2, cur2, rfl, -, hh2, -⟩
      · simp [Value.ownBlock] at e
      · have : g = g2 := by simpa [Value.ownBlock] using e
        subst this
        rw [hh] at hh2
        simp only [Option.some.injEq, Obj.cells.injEq] at hh2
        exact ht hh2.2.1
end Go.Proofs.YtnfhhhcbgipmcaaDoor
