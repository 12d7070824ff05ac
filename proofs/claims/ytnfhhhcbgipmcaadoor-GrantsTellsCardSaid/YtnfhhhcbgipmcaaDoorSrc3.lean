/- What slices.DeleteFunc at grants returns, with the test 'does not fit'. -/
import Derived.Test.YtnfhhhcbgipmcaaDoorSrc2
namespace Go.Proofs.YtnfhhhcbgipmcaaDoor
open Go Go.RowKit

/-- Between two rounds: i kept of the first j. -/
structure Del (l m : List Gr) (q : Gr → Bool) (i j : Nat) : Prop where
  len : m.length = l.length
  lt : i < j
  le : j ≤ l.length
  front : m.take i = (l.take j).filter q
  rest : m.drop j = l.drop j
theorem Del.start {l : List Gr} {q : Gr → Bool} {k : Nat} (hk : k < l.length) (hp : q l[k] = false) (hno : ∀ i (_ : i < l.length), i < k → q l[i] = true) : Del l l q k (k + 1) := by
  refine ⟨rfl, by omega, by omega, ?_, rfl⟩
  rw [List.take_succ_eq_append_getElem hk, List.filter_append, List.filter_cons, hp]
  have : (l.take k).filter q = l.take k := List.filter_eq_self.2 fun a ha => by
    obtain ⟨i, hi, rfl⟩ := List.getElem_of_mem ha
    rw [List.length_take] at hi
    rw [List.getElem_take]
    exact hno i (by omega) (by omega)
  rw [this]
  simp
theorem Del.at_ {l m : List Gr} {q : Gr → Bool} {i j : Nat} (h : Del l m q i j) (hj : j < l.length) : ∃ hm : j < m.length, m[j] = l[j] := by
  have hm : j < m.length := by have := h.len; omega
  refine ⟨hm, ?_⟩
  have := congrArg (fun x : List Gr => x[0]?) h.rest
  simp only [List.getElem?_drop, Nat.add_zero] at this
  rw [List.getElem?_eq_getElem hm, List.getElem?_eq_getElem hj] at this
  exact Option.some.inj this
theorem drop_more {l m : List Gr} {j : Nat} (h : m.drop j = l.drop j) : m.drop (j + 1) = l.drop (j + 1) := by
  rw [← List.drop_drop, ← List.drop_drop, h]
theorem Del.skip {l m : List Gr} {q : Gr → Bool} {i j : Nat} (h : Del l m q i j) (hj : j < l.length) (hq : q l[j] = false) : Del l m q i (j + 1) := by
  refine ⟨h.len, by have := h.lt; omega, by omega, ?_, drop_more h.rest⟩
  rw [List.take_succ_eq_append_getElem hj, List.filter_append, List.filter_cons, hq, h.front]
  simp
theorem Del.keep {l m : List Gr} {q : Gr → Bool} {i j : Nat} (h : Del l m q i j) (hj : j < l.length) (hq : q l[j] = true) : Del l (m.set i l[j]) q (i + 1) (j + 1) := by
  have hl := h.len
  have hi := h.lt
  refine ⟨by simpa using hl, by omega, by omega, ?_, ?_⟩
  · rw [List.take_succ_eq_append_getElem hj, List.filter_append, List.filter_cons, hq, ← h.front, List.take_succ_eq_append_getElem (by rw [List.length_set]; omega), List.getElem_set_self, List.take_set_of_le (Nat.le_refl _)]
    simp
  · rw [List.drop_set_of_lt (by omega)]
    exact drop_more h.rest
theorem Del.done {l m : List Gr} {q : Gr → Bool} {i : Nat} (h : Del l m q i l.length) : m.take i = l.filter q := by
  rw [h.front, List.take_length]

theorem gown_cell {w : World} {base n cap g : Nat} {m : List Gr} (h : w.ownsRow base 47 3 (.slice (some ⟨g, 0, none⟩) n cap) n (GR.cells m)) (j : Nat) (hj : j < m.length) :
    w.cell? ⟨g, j * 3, none⟩ = some (.int .i64 m[j].1) ∧ w.cell? ⟨g, j * 3 + 1, none⟩ = some (.int .i64 m[j].2.1) ∧ w.cell? ⟨g, j * 3 + 2, none⟩ = some (.int .i64 m[j].2.2) := by
  have hl := h.1
  rw [Three.cells_length] at hl
  obtain ⟨h0, h1, h2⟩ := GR.cells_at m j hj
  exact ⟨by rw [h.cellAt _ (by omega), h0]; rfl, by rw [h.cellAt _ (by omega), h1]; rfl, by rw [h.cellAt _ (by omega), h2]; rfl⟩
theorem gown_store {w : World} {base n cap g : Nat} {m : List Gr} (h : w.ownsRow base 47 3 (.slice (some ⟨g, 0, none⟩) n cap) n (GR.cells m)) (j : Nat) (hj : j < m.length) (y : Gr) :
    (((w.setCell ⟨g, j * 3, none⟩ (.int .i64 y.1)).setCell ⟨g, j * 3 + 1, none⟩ (.int .i64 y.2.1)).setCell ⟨g, j * 3 + 2, none⟩ (.int .i64 y.2.2)).ownsRow base 47 3 (.slice (some ⟨g, 0, none⟩) n cap) n (GR.cells (m.set j y)) := by
  have := (((h.stored (j * 3) (.int .i64 y.1)).1.stored (j * 3 + 1) (.int .i64 y.2.1)).1.stored (j * 3 + 2) (.int .i64 y.2.2)).1
  rw [show (((GR.cells m).set (j * 3) (.int .i64 y.1)).set (j * 3 + 1) (.int .i64 y.2.1)).set (j * 3 + 2) (.int .i64 y.2.2) = GR.cells (m.set j y) from GR.cells_set m j hj y] at this
  exact this

theorem run_drop_at {P : Program} {t e : TypeId} {z : Value} {sz bytes : Nat} (ht : P.underlying t = some (.slice e)) (hinfo : (P.info? e).map (fun i => (i.zero, i.size, i.bytes)) = some (some z, sz, bytes))
    (g n cap k : Nat) (kl : IntKind) (hk : k < n) (hn : n ≤ cap) (W : World) : (Instr.slice t (.slice (some ⟨g, 0, none⟩) n cap) (some (.int kl k)) none none).run P W = .ok (.slice (some ⟨g, k * sz, none⟩) (n - k) (cap - k)) W := by
  obtain ⟨i, hi, hz, h4, h5⟩ := info_parts hinfo
  have he : P.elem t = e := by simp [Program.elem, ht]
  rw [run_slice_l W t _ n cap (by rw [he]; exact ht) kl k (by omega) (by omega), he]
  have hne : cap ≠ k := by omega
  simp [sizeOf, typeInfo, hi, h4, sliced, Result.andThen, hne, Addr.add]
  exact fun h => h.symm
theorem run_take_at {P : Program} {t e : TypeId} {z : Value} {sz bytes : Nat} (ht : P.underlying t = some (.slice e)) (hinfo : (P.info? e).map (fun i => (i.zero, i.size, i.bytes)) = some (some z, sz, bytes))
    (g n cap k : Nat) (kl : IntKind) (hk : k ≤ n) (hn : n ≤ cap) (W : World) : (Instr.slice t (.slice (some ⟨g, 0, none⟩) n cap) none (some (.int kl k)) none).run P W = .ok (.slice (some ⟨g, 0, none⟩) k cap) W := by
  obtain ⟨i, hi, hz, h4, h5⟩ := info_parts hinfo
  have he : P.elem t = e := by simp [Program.elem, ht]
  rw [run_slice_h W t _ n cap (by rw [he]; exact ht) kl k (by omega) (by omega), he]
  simp [sizeOf, typeInfo, hi, h4, sliced, Result.andThen, Addr.add]
theorem take_kept {w : World} {g n cap x : Nat} {m : List Gr} (h : Gs w (.slice (some ⟨g, 0, none⟩) n cap) m) (hn : m.length = n) (hx : x ≤ n) (zs : List Value) : Gs (w.setCells g (x * 3) zs) (.slice (some ⟨g, 0, none⟩) x cap) (m.take x) := by
  subst hn
  have ht := Sl.take h x hx
  rw [GR.cells_take] at ht
  obtain ⟨h0, ao, cap', e, h1, h2, h3, h4⟩ := ht
  obtain ⟨rfl, -, rfl⟩ := Value.slice.inj e
  have hl : (m.take x).length = x := by rw [List.length_take]; omega
  refine ⟨by rw [hl]; exact h0, some ⟨g, 0, none⟩, cap, by rw [hl], by rw [hl]; exact h1, h2, h3, fun j hj => ?_⟩
  obtain ⟨b, off, e1, hc⟩ := h4 j hj
  obtain ⟨rfl, rfl⟩ : g = b ∧ 0 = off := by simpa using e1
  refine ⟨g, 0, rfl, ?_⟩
  rw [World.cell?_setCells_out g zs (x * 3) w _ (fun _ _ => .inl (by simpa using (show j < x * 3 by rw [h0] at hj; exact hj)))]
  exact hc
theorem zeroGr (w : World) : (zeroValue 47).run Tryd.prog w = .ok (.agg #[.int .i64 0, .int .i64 0, .int .i64 0]) w := by kernel_rfl

set_option maxHeartbeats 1000000 in
theorem gdelete_any (v : Value) (l : List Gr) (B base : Nat) (p : Gr → Bool) (w : World) (hl : l.length ≤ 100000) (h : w.ownsRow base 47 3 v l.length (GR.cells l)) (hbase : base ≤ w.heap.size) (hf : Tests w base B p) :
    Calls Tryd.prog 69 #[v, .func (.func 71) #[] #[.pointer (some ⟨B, 0, none⟩)]] w fun e w' => ∃ v', e = .returned v' ∧ Gs w' v' (l.filter fun g => !p g) ∧ Below base w w' := by
  have hgs : Gs w v l := Three.Ss.of_owns h
  obtain ⟨ao, cap, rfl, hcap⟩ := hgs.shape
  have HI := Lib.hid (gindexFunc_any _ l B p w hgs (fun W hW g => hf W (hW.mono hbase) g))
  have HGS := Lib.hid hgs
  have HF := Lib.hid hf
  have HO := Lib.hid h
  clear hf hgs h
  obtain ⟨N, hN⟩ : ∃ N, l.length = N := ⟨_, rfl⟩
  have HN := Lib.hid hN
  rw [hN] at HI HO hcap hl HGS ⊢
  clear hN
  go_enter Tryd.func69, Tryd.ntmps69
  go_wp2_with fail
  refine HI.out.mono ?_
  rintro e w1 ⟨r, rfl, hmet, hb1⟩
  have hbw := Lib.hid (hb1.mono hbase)
  have HO1 := Lib.hid (ownsRow.below HO.out hb1)
  rcases hmet with ⟨rfl, hall⟩ | ⟨k, rfl, hk, hpk, hno⟩
  · have hfin : Hid (Gs w1 (.slice ao N cap) (l.filter fun g => !p g)) := by
      unfold Hid
      rw [List.filter_eq_self.2 fun a ha => by
        obtain ⟨i, hi, rfl⟩ := List.getElem_of_mem ha
        rw [hall i hi]; rfl]
      exact Three.Ss.below HGS.out hb1
    clear hall hb1 HI
    go_wp2_with fail
    go_ret
    exact ⟨_, rfl, hfin.out, hbw.out⟩
  · have hD : Hid (Del l l (fun g => !p g) k (k + 1)) := Del.start hk (by rw [hpk]; rfl) (fun i hi hik => by rw [hno i hi hik]; rfl)
    have dk : ((k : Int) == -1) = false := by rw [beq_eq_false_iff_ne]; omega
    have hkN : k < N := by have := HN.out; omega
    obtain ⟨g, rfl⟩ : ∃ g, ao = some ⟨g, 0, none⟩ := by
      rcases HO.out.2 with ⟨_, h0⟩ | ⟨g, cap', cur, e, _⟩
      · omega
      · exact ⟨g, (Value.slice.inj e).1⟩
    have hbg : base ≤ g := (HO.out.lt g rfl).1
    clear hpk hno hb1 HI
    go_wp2_with fail
    go_loopw [5, 6] (fun i j wr => ∃ (m : List Gr) (x y : Nat), y ≤ N ∧ i = .int .i64 x ∧ j = .int .i64 y ∧ Hid (Del l m (fun g => !p g) x y) ∧ Hid (wr.ownsRow base 47 3 (.slice (some ⟨g, 0, none⟩) N cap) N (GR.cells m)) ∧ Hid (Below base w wr)) (fun _ j _ => N - (intOf j).toNat)
    case atStart => exact ⟨l, k, k + 1, by omega, rfl, by go_num, hD, HO1, hbw⟩
    case round =>
      clear hD HO1 hbw dk
      obtain ⟨m, x, y, hy, rfl, rfl, hD, hr, hbr⟩ := hrel
      by_cases hyN : y < N
      · have hyl : y < l.length := by have := HN.out; omega
        have hxN : x < N := by have := hD.out.lt; omega
        obtain ⟨hym, hmy⟩ := hD.out.at_ hyl
        have hxm : x < m.length := by have := hD.out.lt; omega
        obtain ⟨p0, p1, p2⟩ := gown_cell hr.out y hym
        have hskip := Lib.hid (hD.out.skip hyl)
        have hkeep := Lib.hid (hD.out.keep hyl)
        rw [hmy] at p0 p1 p2
        obtain ⟨z, hz⟩ : ∃ z, l[y] = z := ⟨_, rfl⟩
        rw [hz] at p0 p1 p2 hskip hkeep
        clear hmy hz hym
        obtain ⟨z0, z1, z2⟩ := z
        simp only [] at p0 p1 p2
        have hb2 : Below base w (wr.alloc (.cells #[.int .i64 z0, .int .i64 z1, .int .i64 z2] 47)) := hbr.out.alloc (Nat.le_trans hbase hbr.out.size) _
        have HFz := Lib.hid (HF.out _ hb2 (z0, z1, z2))
        have hX : Hid (Bx (wr.alloc (.cells #[.int .i64 z0, .int .i64 z1, .int .i64 z2] 47)) wr.heap.size 47 (.int .i64 z0) (.int .i64 z1) (.int .i64 z2)) := heap_alloc_new _ _
        have hr2 := Lib.hid (hr.out.alloc (.cells #[.int .i64 z0, .int .i64 z1, .int .i64 z2] 47))
        replace hb2 := Lib.hid hb2
        cases he : p (z0, z1, z2) with
        | true =>
          rw [he] at HFz
          replace hskip := Lib.hid (hskip.out (by rw [he]; rfl))
          clear hkeep he
          go_wp2_with fail
          refine HFz.out.mono ?_
          rintro e w3 ⟨rfl, hb⟩
          have hb3 := Lib.hid (hb2.out.trans (hb.mono (Nat.le_trans hbase hb2.out.size)))
          have hr3 := Lib.hid (ownsRow.below hr2.out hb)
          clear hb hb2 hr2 HFz p0 p1 p2 hX hr
          go_wp2_with fail
          go_roundw
          case rel => exact ⟨m, x, y + 1, by omega, rfl, by go_num, hskip, hr3, hb3⟩
          case measure => simp [intOf]; omega
        | false =>
          rw [he] at HFz
          replace hkeep := Lib.hid (hkeep.out (by rw [he]; rfl))
          clear hskip he
          have hxI : (x : Int) < (N : Int) := by omega
          go_wp2_with fail
          refine HFz.out.mono ?_
          rintro e w3 ⟨rfl, hb⟩
          have hb3 := Lib.hid (hb2.out.trans (hb.mono (Nat.le_trans hbase hb2.out.size)))
          have hr3 := Lib.hid (ownsRow.below hr2.out hb)
          obtain ⟨e0, e1, e2⟩ := (hX.out.later hb).cells
          obtain ⟨s0, s1, s2⟩ := gown_cell hr3.out x hxm
          have f0 := hr3.out.frozenAt (x * 3)
          have f1 := hr3.out.frozenAt (x * 3 + 1)
          have f2 := hr3.out.frozenAt (x * 3 + 2)
          have hr4 := Lib.hid (gown_store hr3.out x hxm (z0, z1, z2))
          have hb4 := Lib.hid (((hb3.out.setCell (p := ⟨g, x * 3, none⟩) hbg (.int .i64 z0)).setCell (p := ⟨g, x * 3 + 1, none⟩) hbg (.int .i64 z1)).setCell (p := ⟨g, x * 3 + 2, none⟩) hbg (.int .i64 z2))
          clear hb hb2 hr2 HFz p0 p1 p2 hX hr hr3 hb3
          go_wp2_with fail
          go_roundw
          case rel => exact ⟨_, x + 1, y + 1, by omega, by go_num, by go_num, hkeep, hr4, hb4⟩
          case measure => simp [intOf]; omega
      · obtain rfl : y = N := by omega
        have hlen : m.length = y := hD.out.len.trans HN.out
        have hxy : x < y := hD.out.lt
        have hfin : Hid (m.take x = l.filter fun g => !p g) := by
          have h := hD.out
          have := HN.out
          unfold Hid
          subst this
          exact h.done
        have hr1 := fun W => run_drop_at (P := Tryd.prog) (t := 44) Tryd.underlying44 infoGr g y cap x .i64 hxy hcap W
        have hr2 := fun W => run_take_at (P := Tryd.prog) (t := 44) Tryd.underlying44 infoGr g y cap x .i64 (Nat.le_of_lt hxy) hcap W
        obtain ⟨zs, hcl⟩ := run_clear3 (P := Tryd.prog) wr 44 47 (.int .i64 0) (.int .i64 0) (.int .i64 0) Tryd.underlying44 zeroGr rfl rfl rfl g (x * 3) (y - x) (cap - x) (by omega)
          (fun j hj => by
            rw [hr.out.cellAt _ (by omega), List.getElem?_eq_getElem (by rw [Three.cells_length]; omega)]; rfl)
          (fun j _ => hr.out.frozenAt _)
        have hg := Lib.hid (take_kept (Three.Ss.of_owns hr.out) hlen (Nat.le_of_lt hxy) zs)
        have hbz := Lib.hid (below_setCells hbg zs (x * 3) wr hbr.out)
        clear hD hr hbr hlen
        go_wp2_with (simp only [hcl])
        go_ret
        exact ⟨_, rfl, by rw [← hfin.out]; exact hg.out, hbz.out⟩
end Go.Proofs.YtnfhhhcbgipmcaaDoor
