/- PurgeModel returns true. -/
import Derived.Test.YtmapmeacjpoaoaaDoorPm23
namespace Go.Proofs.YtmapmeacjpoaoaaDoor
open Go Go.RowKit

theorem Mem.lt' {w : World} {B n : Nat} {vn vu vq vg : Value} {X : Mv} {m : St} (h : Mem (fun k => False ∨ X.foot B k) w B n vn vu vq vg X m) : ∀ k, X.foot B k → k < w.heap.size := fun k hk => h.lt k (.inr hk)
theorem L.purges_len (us : List Nat) (gs : List Gr) (d : Nat) : ∀ l : List Opr, (L.purges us gs d l).length ≤ l.length
  | [] => Nat.le_refl _
  | o :: l => by
    rw [L.purges_cons, List.length_append, List.length_cons]
    have h1 := L.purges_len us gs d l
    have h2 : (L.pick (L.inn (L.cur us gs d (o :: l))) o).length ≤ 1 := by
      unfold L.pick
      split <;> simp
    omega
/-- Operations as they lie, their texts' slices fixed. -/
def OsF (w : World) (v : Value) (us : List Value) (l : List Opr) : Prop := us.length = l.length ∧ Sl w 11 l.length v (opCells (List.zipWith Op11.put l us)) ∧ ∀ i (h : i < us.length) (h2 : i < l.length), Ks w us[i] l[i].keep
theorem OsF.below {w w' : World} {v : Value} {us : List Value} {l : List Opr} (h : OsF w v us l) (hb : Below w.heap.size w w') : OsF w' v us l := ⟨h.1, h.2.1.below hb, fun i a b => (h.2.2 i a b).below hb⟩
theorem OsF.here {w : World} {ao : Option Addr} {n cap : Nat} {us : List Value} {l : List Opr} (h : OsF w (.slice ao n cap) us l) {j : Nat} (hj : j < l.length) :
    ∃ b off, ao = some ⟨b, off, none⟩ ∧ Ks w (us[j]'(by rw [h.1]; exact hj)) l[j].keep ∧ OpAt w b (off + j * 11) (l[j].put (us[j]'(by rw [h.1]; exact hj))) := by
  obtain ⟨h0, h1, h2⟩ := h
  have hzl : (List.zipWith Op11.put l us).length = l.length := by simp [h0]
  have hcl := opCells_length (List.zipWith Op11.put l us)
  rw [hzl] at hcl
  obtain ⟨b, off, rfl, hc⟩ := h1.at (j := j * 11) (by omega)
  refine ⟨b, off, rfl, h2 j (by omega) hj, ?_⟩
  have key : ∀ i (hi : i < 11), w.cell? ⟨b, off + j * 11 + i, none⟩ = (Op11.put l[j] (us[j]'(by omega))).cs[i]? := fun i hi => by
    have h3 := opCells_at (List.zipWith Op11.put l us) j (by omega) i hi
    obtain ⟨h4, h5⟩ := List.getElem?_eq_some_iff.1 (show (opCells (List.zipWith Op11.put l us))[j * 11 + i]? = some ((opCells (List.zipWith Op11.put l us))[j * 11 + i]'(by omega)) from List.getElem?_eq_getElem _)
    rw [Nat.add_assoc, hc (j * 11 + i) (by omega), ← List.getElem?_eq_getElem, h3]
    simp
  exact ⟨key 0 (by decide), key 1 (by decide), key 2 (by decide), key 3 (by decide), key 4 (by decide), key 5 (by decide), key 6 (by decide), key 7 (by decide), key 8 (by decide), key 9 (by decide), key 10 (by decide)⟩
theorem OsF.stay {P : World → Prop} {ao : Option Addr} {n cap : Nat} {us : List Value} {l : List Opr} (h : ∀ W, P W → OsF W (.slice ao n cap) us l) {w : World} (hw : P w) {j : Nat} (hj : j < l.length) :
    ∃ b off u, ao = some ⟨b, off, none⟩ ∧ Ks w u l[j].keep ∧ ∀ W, P W → OpAt W b (off + j * 11) (l[j].put u) := by
  obtain ⟨b, off, e, hk, -⟩ := (h w hw).here hj
  refine ⟨b, off, _, e, hk, fun W hW => ?_⟩
  obtain ⟨b', off', e', -, ho⟩ := (h W hW).here hj
  rw [e] at e'
  obtain ⟨rfl, rfl⟩ : b = b' ∧ off = off' := by simpa using e'
  exact ho
theorem pm_new {P : World → Prop} {w w4 w5 w6 : World} {n : Nat} {vn vu vq vg : Value} {Ba Bb : Nat} {Xa Xb : Mv} {ma mb : St} (ha : Mem (Xa.foot Ba) w5 Ba n vn vu vq vg Xa ma) (hf : Fz (Xa.foot Ba) w5 P) (h4 : w.heap.size ≤ w4.heap.size) (hfa : ∀ k, Xa.foot Ba k → w4.heap.size ≤ k) (h5 : w.heap.size ≤ w5.heap.size)
    (hb : Mem (fun k => Xa.foot Ba k ∨ Xb.foot Bb k) w6 Bb n vn vu vq vg Xb mb) (hfb : ∀ k, Xb.foot Bb k → w5.heap.size ≤ k) (hx : Below w5.heap.size w5 w6) : Pm P w6 w.heap.size n vn vu vq vg Ba Bb Xa Xb ma mb (.slice none 0 0) [] [] := by
  have hsz := hx.size
  have e : Gp Ba Bb Xa Xb (.slice none 0 0) = fun k => Xa.foot Ba k ∨ Xb.foot Bb k := by
    funext k
    exact propext ⟨fun h => h.elim id (fun h => by simp [Value.ownBlock] at h), .inl⟩
  have hG : ∀ k, k < w5.heap.size → (Xa.foot Ba k ∨ Xb.foot Bb k) → Xa.foot Ba k := fun k hk h => h.elim id fun h => by have := hfb k h; omega
  refine ⟨?_, ?_, World.ownsRow_nil _ _ _ _, rfl, fun W _ i h => by simp at h, ?_, fun k hk h2 => ?_, fun k _ h => by simp [Value.ownBlock] at h, fun k _ h => by simp [Value.ownBlock] at h, fun k hk => ?_⟩
  · rw [e]
    exact ha.exF (F := fun _ => False) (Ex.of_below hx) (fun _ _ h => h) (fun _ _ h => h.elim) hG (fun k hk => .inl hk) (fun k hk => hb.lt k hk)
  · rw [e]; exact hb
  · rw [e]; exact hf.wide (Ex.of_below hx) hG
  · have h1 := ha.lt k hk
    have h3 := hfb k h2
    omega
  · rw [e] at hk
    rcases hk with hk | hk
    · exact Nat.le_trans h4 (hfa k hk)
    · exact Nat.le_trans h5 (hfb k hk)
section
variable {P : World → Prop} {W W' : World} {base n : Nat} {vn vu vq vg : Value} {Ba Bb : Nat} {Xa Xb : Mv} {ma mb : St} {vt : Value} {ts : List (Value × Value)} {tl : List Res}
theorem Pm.stepb (h : Pm P W base n vn vu vq vg Ba Bb Xa Xb ma mb vt ts tl) (hB : base ≤ W.heap.size) {Xb' : Mv} {mb' : St} (hl : Left (Gp Ba Bb Xa Xb vt) W W' Bb n vn vu vq vg Xb Xb' mb') : Pm P W' base n vn vu vq vg Ba Bb Xa Xb' ma mb' vt ts tl :=
  (h.swap.step hB (by rw [Gp_swap] at hl; exact hl)).swap
theorem Pm.tat {ta : Option Addr} {tn tc : Nat} (h : Pm P W base n vn vu vq vg Ba Bb Xa Xb ma mb (.slice ta tn tc) ts tl) {q : Nat} (hq : q < tl.length) :
    ∃ b off, ta = some ⟨b, off, none⟩ ∧ ∀ W', Below W.heap.size W W' → W'.cell? ⟨b, off + q * 8, none⟩ = some (.int .i64 tl[q].e) ∧ W'.cell? ⟨b, off + q * 8 + 1, none⟩ = some (.int .i64 tl[q].n) ∧ W'.cell? ⟨b, off + q * 8 + 2, none⟩ = some (ts[q]'(by rw [h.len]; exact hq)).1 ∧ W'.cell? ⟨b, off + q * 8 + 3, none⟩ = some (.int .i64 0) ∧ W'.cell? ⟨b, off + q * 8 + 4, none⟩ = some (.int .i64 0) ∧ W'.cell? ⟨b, off + q * 8 + 5, none⟩ = some (.int .i64 0) ∧ W'.cell? ⟨b, off + q * 8 + 6, none⟩ = some (.int .i64 0) ∧ W'.cell? ⟨b, off + q * 8 + 7, none⟩ = some (ts[q]'(by rw [h.len]; exact hq)).2 := by
  have hl := h.len
  have hs := Sl.of_owns h.own
  have hcl : (rsCells tl ts).length = tl.length * 8 := by
    unfold rsCells
    rw [cells_len rs1 8 (fun _ => rfl)]
    simp [hl]
  obtain ⟨b, off, rfl, -⟩ := hs.at (j := q * 8) (by omega)
  refine ⟨b, off, rfl, fun W' hW => ?_⟩
  obtain ⟨b', off', e, hc⟩ := (hs.below hW).at (j := q * 8) (by omega)
  obtain ⟨rfl, rfl⟩ : b = b' ∧ off = off' := by simpa using e
  have hz : (tl.zip ts).length = tl.length := by simp [hl]
  have key : ∀ i (hi : i < 8), W'.cell? ⟨b, off + q * 8 + i, none⟩ = (rs1 (tl[q], ts[q]'(by omega)))[i]? := fun i hi => by
    have h3 := cells_at rs1 8 (fun _ => rfl) (tl.zip ts) q (by omega) i hi
    rw [Nat.add_assoc, hc (q * 8 + i) (by omega), ← List.getElem?_eq_getElem]
    unfold rsCells
    rw [h3]
    simp
  exact ⟨key 0 (by decide), key 1 (by decide), key 2 (by decide), key 3 (by decide), key 4 (by decide), key 5 (by decide), key 6 (by decide), key 7 (by decide)⟩
theorem Pm.toldb {Xb' : Mv} {Q : World → Prop} (h : Fz (fun k => Gp Ba Bb Xa Xb vt k ∨ Xb'.foot Bb k) W Q) : Fz (Gp Ba Bb Xa Xb' vt) W Q := by
  rw [Gp_swap]
  refine Pm.told (Xa := Xb) (Xb := Xa) ?_
  rw [Gp_swap Bb Ba Xb Xa vt]
  exact h
end
set_option maxRecDepth 4000 in
set_option maxHeartbeats 16000000 in
theorem pumodel_any (vn vu vq vg vl : Value) (ns : List (List UInt8)) (us : List Nat) (qs : List Int) (gs : List Gr) (l : List Opr) (lv : Nat) (w : World) (h : Cf w vn vu vq vg ns us qs gs) (hl : Os w vl l) (hlv : lv < 256) (ht : DTab w) :
    Calls Tryd.prog 3 #[cfv vn vu vq vg, vl, .int .u8 lv] w fun e w' => e = .returned (.bool true) ∧ Below w.heap.size w w' := by
  obtain ⟨ao, cap, rfl, -⟩ := hl.shape
  obtain ⟨vua, vuc, rfl, -⟩ := h.u.shape
  obtain ⟨ga, gc, rfl, -⟩ := h.g.shape
  obtain ⟨na, nc, rfl, -⟩ := h.n.shape
  obtain ⟨qa, qc, rfl, -⟩ := h.q.shape
  have hbig := hl.len
  have HCf := Lib.hid h
  have HL := Lib.hid hl
  have HT := Lib.hid ht
  have HA := Lib.hid (fun W (hW : Below w.heap.size w W) => awake_any W (ht.below hW))
  have HS := Lib.hid (fun W (hW : Below w.heap.size w W) => small_det (.slice na ns.length nc) (.slice vua us.length vuc) (.slice qa qs.length qc) (.slice ga gs.length gc) (.slice ao l.length cap) ns us qs gs l W (h.below hW) (hl.below hW))
  have HCB := Lib.hid (Cb.new w (.slice na ns.length nc) (.slice vua us.length vuc) (.slice qa qs.length qc) (.slice ga gs.length gc))
  have hb0 : Hid (Below w.heap.size w (w.alloc (.cells #[(.slice na ns.length nc), .slice vua us.length vuc, (.slice qa qs.length qc), (.slice ga gs.length gc)] 27))) := (Below.refl _ _).alloc (Nat.le_refl _) _
  clear h hl ht
  obtain ⟨n, hn⟩ : ∃ n, l.length = n := ⟨_, rfl⟩
  obtain ⟨m, hm⟩ : ∃ m, us.length = m := ⟨_, rfl⟩
  obtain ⟨g, hg⟩ : ∃ g, gs.length = g := ⟨_, rfl⟩
  obtain ⟨nl, hnl⟩ : ∃ g, ns.length = g := ⟨_, rfl⟩
  obtain ⟨ql, hql⟩ : ∃ g, qs.length = g := ⟨_, rfl⟩
  have HGn := Lib.hid hg
  have HN := Lib.hid hn
  have HM := Lib.hid hm
  rw [hn] at HL hbig HS
  rw [hm, hg, hnl, hql] at HCf HS HCB hb0
  rw [hn, hm, hg, hnl, hql]
  clear hn hm hg hnl hql
  go_enter Tryd.func3, Tryd.ntmps3
  go_wp2_with fail
  refine (HA.out _ hb0.out).mono ?_
  rintro e w1 ⟨rfl, hx⟩
  have HC1 := Lib.hid (HCB.out.later hx)
  have hb1 := Lib.hid (below_next hb0.out hx)
  have st := Lib.hid (HS.out w1 hb1.out)
  have q0 := HC1.out.cell.1
  have q1 := HC1.out.cell.2.1
  have q2 := HC1.out.cell.2.2.1
  have q3 := HC1.out.cell.2.2.2
  clear hx HA HS HCB hb0
  go_wp2_with fail
  refine st.out.mono ?_
  rintro e w2 ⟨bb, rfl, hsm, hx⟩
  have HC2 := Lib.hid (HC1.out.later hx)
  have hb2 := Lib.hid (below_next hb1.out hx)
  clear hx st q0 q1 q2 q3 HC1 hb1
  cases bb with
  | false =>
    clear hsm
    go_wp2_with fail
    go_ret
    exact ⟨rfl, hb2.out⟩
  | true =>
    have HSm := Lib.hid (hsm rfl).1
    have HOK := Lib.hid (hsm rfl).2
    have HLat := Lib.hid (L.check_iff.1 HSm.out.lat)
    have h120 : n ≤ 120 := by rw [← HN.out]; exact HSm.out.few
    clear hsm
    have hm1 : 1 ≤ m := by rw [← HM.out]; exact HLat.out.some
    have hm12 : m ≤ 12 := by rw [← HM.out]; exact HSm.out.labels
    have hxx : (lv : Int) % (m : Int) = ((lv % m : Nat) : Int) := (Int.natCast_emod lv m).symm
    have hxm : lv % m < m := Nat.mod_lt _ (by omega)
    have hlv0 : (0 : Int) ≤ (lv : Int) := by omega
    have hlv1 : (lv : Int) < 256 := by omega
    have hm0 : (m : Int) ≠ 0 := by omega
    obtain ⟨x, hxd⟩ : ∃ x, lv % m = x := ⟨_, rfl⟩
    rw [hxd] at hxx hxm
    clear hxd
    have q0 := HC2.out.cell.1
    have q1 := HC2.out.cell.2.1
    have q2 := HC2.out.cell.2.2.1
    have q3 := HC2.out.cell.2.2.2
    go_wp2_with fail
    try rw [hxx]
    clear q0 q1 q2 q3 hxx
    go_loopw [10, 11] (fun t i wr => ∃ (j : Nat) (ws : List Value), j ≤ n ∧ i = .int .i64 j ∧ Hid (Ob w wr w2.heap.size t ((l.take j).filter (M.check m)) ws) ∧ Hid (Below w2.heap.size w2 wr)) (fun _ i _ => n - (intOf i).toNat)
    case atStart => exact ⟨0, [], by omega, rfl, Ob.nil _ _ _, Below.refl _ _⟩
    case round =>
      obtain ⟨j, ws, hj, rfl, HO, hbr2⟩ := hrel
      by_cases hjn : j < n
      · have hjI : (j : Int) < (n : Int) := by omega
        have hj0 : (0 : Int) ≤ (j : Int) := by omega
        obtain ⟨b, off, u, hab, hks, hat⟩ := (HL.out).at (j := j) (by rw [HN.out]; exact hjn)
        obtain ⟨ua, uc, rfl, -⟩ := hks.shape
        obtain ⟨uq, huq⟩ : ∃ q, (l[j]'(by rw [HN.out]; exact hjn)).keep.length = q := ⟨_, rfl⟩
        rw [huq] at hat hks
        obtain ⟨o, ho⟩ : ∃ o, l[j]'(by rw [HN.out]; exact hjn) = o := ⟨_, rfl⟩
        rw [ho] at hat hks
        have HGO := Lib.hid ho
        have HAT := Lib.hid hat
        have HKS := Lib.hid hks
        clear ho hat hks huq
        subst hab
        have hbr := Lib.hid (below_next hb2.out hbr2.out)
        have HTK : Hid ((l.take (j + 1)).filter (M.check m) = (l.take j).filter (M.check m) ++ (if M.check m o then [o] else [])) := by
          unfold Hid
          rw [List.take_succ_eq_append_getElem (by rw [HN.out]; exact hjn), List.filter_append, HGO.out, List.filter_cons, List.filter_nil]
        have HLn : Hid (((l.take j).filter (M.check m)).length ≤ 120) := by
          have h1 := List.length_filter_le (M.check m) (l.take j)
          rw [List.length_take] at h1
          unfold Hid
          omega
        have HCC : Hid (∀ W, Calls Tryd.prog 6 #[.int .i64 m, opv (o.put (.slice ua uq uc))] W fun e w' => e = .returned (.bool (M.check m o)) ∧ Below W.heap.size W w') := fun W => chk_any m o (.slice ua uq uc) W
        obtain ⟨ck, hck⟩ : ∃ b, M.check m o = b := ⟨_, rfl⟩
        rw [hck] at HTK HCC
        clear hck HGO
        go_wp2_with fail
        refine wp_region_mix ext_grow [(0, false), (1, false), (2, false), (3, false), (4, false), (5, false), (6, false), (7, false)] (by kernel_rfl) (by kernel_rfl) ?_
        have hdq := Lib.hid (below_next hbr2.out (Below.drew (Below.refl _ _)))
        have HOq := Lib.hid (HO.out.below (Below.drew (Below.refl _ _)))
        clear HO hbr hbr2
        generalize wr.drew = wd at *
        have hbd := Lib.hid (below_next hb2.out hdq.out)
        have c1 : ∀ z : Later wd, z.1.cell? ⟨w.heap.size, 1, none⟩ = some (.slice vua m vuc) := fun z => (HC2.out.later (below_next hdq.out z.2)).cell.2.1
        have p0 : ∀ z : Later wd, z.1.cell? ⟨b, off + j * 11, none⟩ = some (.int .i64 o.kind) := fun z => (HAT.out z.1 (below_next hbd.out z.2)).c0
        have p1 : ∀ z : Later wd, z.1.cell? ⟨b, off + j * 11 + 1, none⟩ = some (.int .i64 o.level) := fun z => (HAT.out z.1 (below_next hbd.out z.2)).c1
        have p2 : ∀ z : Later wd, z.1.cell? ⟨b, off + j * 11 + 2, none⟩ = some (.int .i64 o.ses) := fun z => (HAT.out z.1 (below_next hbd.out z.2)).c2
        have p3 : ∀ z : Later wd, z.1.cell? ⟨b, off + j * 11 + 3, none⟩ = some (.int .i64 o.snap) := fun z => (HAT.out z.1 (below_next hbd.out z.2)).c3
        have p4 : ∀ z : Later wd, z.1.cell? ⟨b, off + j * 11 + 4, none⟩ = some (.string (str o.bucket)) := fun z => (HAT.out z.1 (below_next hbd.out z.2)).c4
        have p5 : ∀ z : Later wd, z.1.cell? ⟨b, off + j * 11 + 5, none⟩ = some (.string (str o.key)) := fun z => (HAT.out z.1 (below_next hbd.out z.2)).c5
        have p6 : ∀ z : Later wd, z.1.cell? ⟨b, off + j * 11 + 6, none⟩ = some (.string (str o.val)) := fun z => (HAT.out z.1 (below_next hbd.out z.2)).c6
        have p7 : ∀ z : Later wd, z.1.cell? ⟨b, off + j * 11 + 7, none⟩ = some (.int .i64 o.label) := fun z => (HAT.out z.1 (below_next hbd.out z.2)).c7
        have p8 : ∀ z : Later wd, z.1.cell? ⟨b, off + j * 11 + 8, none⟩ = some (.int .i64 o.to) := fun z => (HAT.out z.1 (below_next hbd.out z.2)).c8
        have p9 : ∀ z : Later wd, z.1.cell? ⟨b, off + j * 11 + 9, none⟩ = some (.int .i64 o.n) := fun z => (HAT.out z.1 (below_next hbd.out z.2)).c9
        have p10 : ∀ z : Later wd, z.1.cell? ⟨b, off + j * 11 + 10, none⟩ = some (.slice ua uq uc) := fun z => (HAT.out z.1 (below_next hbd.out z.2)).c10
        have HCy : Hid (∀ z : Later wd, Calls Tryd.prog 6 #[.int .i64 m, opv (o.put (.slice ua uq uc))] z.1 fun e w' => e = .returned (.bool ck) ∧ Ext z.1 w') := fun z => HCC.out z.1
        repeat (refine mix_soft rfl (fun K hK => ?_); go_simp; (first | (refine hK _ ?_; clear hK K) | (apply Exists.intro; refine ⟨fun z => ?_, hK _ ?_⟩; (first | (go_at_call 6; exact HCy.out z)); clear hK K)))
        refine mix_done fun w3 hx => ?_
        have hb3 := Lib.hid (below_next hdq.out hx)
        have HO3 := Lib.hid (HOq.out.below hx)
        clear c1 p0 p1 p2 p3 p4 p5 p6 p7 p8 p9 p10 HCy HCC hx hdq HOq hbd
        cases ck with
        | false =>
          have HO4 : Hid (Ob w w3 w2.heap.size u10 ((l.take (j + 1)).filter (M.check m)) ws) := by
            unfold Hid
            rw [HTK.out, if_neg (by decide), List.append_nil]
            exact HO3.out
          clear HO3 HTK
          go_wp2_with fail
          go_roundw
          case rel => exact ⟨j + 1, ws, by omega, by go_num, HO4, hb3⟩
          case measure => simp [intOf]; omega
        | true =>
          rw [if_pos rfl] at HTK
          have hbw3 := Lib.hid (below_next hb2.out hb3.out)
          obtain ⟨p0, p1, p2, p3, p4, p5, p6, p7, p8, p9, p10⟩ := HAT.out w3 hbw3.out
          simp only [Op11.put] at p0 p1 p2 p3 p4 p5 p6 p7 p8 p9 p10
          have HO5 := Lib.hid (HO3.out.below ((Below.refl _ w3).alloc (Nat.le_refl _) (.cells #[.int .i64 o.kind, .int .i64 o.level, .int .i64 o.ses, .int .i64 o.snap, .string (str o.bucket), .string (str o.key), .string (str o.val), .int .i64 o.label, .int .i64 o.to, .int .i64 o.n, .slice ua uq uc] 33)))
          have HK5 : Hid (Kx w (w3.alloc (.cells #[.int .i64 o.kind, .int .i64 o.level, .int .i64 o.ses, .int .i64 o.snap, .string (str o.bucket), .string (str o.key), .string (str o.val), .int .i64 o.label, .int .i64 o.to, .int .i64 o.n, .slice ua uq uc] 33)) w2.heap.size (.slice ua uq uc) o.keep) := .inl HKS.out
          have HS5 : Hid (Sl (w3.alloc (.cells #[.int .i64 o.kind, .int .i64 o.level, .int .i64 o.ses, .int .i64 o.snap, .string (str o.bucket), .string (str o.key), .string (str o.val), .int .i64 o.label, .int .i64 o.to, .int .i64 o.n, .slice ua uq uc] 33)) 11 1 (.slice (some ⟨w3.heap.size, 0, none⟩) 1 1) (opCells [o.put (.slice ua uq uc)])) := Sl.lit w3 33 11 1 #[.int .i64 o.kind, .int .i64 o.level, .int .i64 o.ses, .int .i64 o.snap, .string (str o.bucket), .string (str o.key), .string (str o.val), .int .i64 o.label, .int .i64 o.to, .int .i64 o.n, .slice ua uq uc] (0, 0) rfl (by decide)
          have hb5' : Hid (Below w2.heap.size w2 (w3.alloc (.cells #[.int .i64 o.kind, .int .i64 o.level, .int .i64 o.ses, .int .i64 o.snap, .string (str o.bucket), .string (str o.key), .string (str o.val), .int .i64 o.label, .int .i64 o.to, .int .i64 o.n, .slice ua uq uc] 33))) := hb3.out.alloc hb3.out.size _
          obtain ⟨mm, hmm⟩ : ∃ k, ((l.take j).filter (M.check m)).length = k := ⟨_, rfl⟩
          have hown := HO5.out.own
          have hll := HLn.out
          rw [hmm] at hown hll
          have HOW := Lib.hid hown
          have HMM := Lib.hid hmm
          clear hown hmm HO3 hb3 hbw3
          go_wp2_with (at_builtin; go_must (refine wpList_append_sl rfl _ _ 28 rfl w2.heap.size 33 _ 11 128 Tryd.underlying28 infoOp rfl (by decide) _ _ _ rfl HOW.out _ 1 (opCells [o.put (.slice ua uq uc)]) rfl HS5.out (op_one ⟨_, _, _, rfl⟩) (by unfold maxLen; omega) (by omega) hb5'.out.size ?_))
          intro v7 w7 hown7 hgrow hnn
          clear hnn
          have HO7 : Hid (Ob w w7 w2.heap.size v7 ((l.take (j + 1)).filter (M.check m)) (ws ++ [.slice ua uq uc])) := by
            unfold Hid
            rw [HTK.out]
            refine HO5.out.push HK5.out hgrow ?_
            rw [HMM.out]
            exact hown7
          have hb7' : Hid (Below w2.heap.size w2 w7) := hb5'.out.grown hgrow hb5'.out.size (ownBlock_ge HOW.out)
          clear hown7 hgrow HO5 HK5 HS5 hb5' HOW HMM p0 p1 p2 p3 p4 p5 p6 p7 p8 p9 p10
          go_wp2_with fail
          go_roundw
          case rel => exact ⟨j + 1, ws ++ [.slice ua uq uc], by omega, by go_num, HO7, hb7'⟩
          case measure => simp [intOf]; omega
      · have hjI : ¬ ((j : Int) < (n : Int)) := by omega
        obtain rfl : j = n := by omega
        rw [List.take_of_length_le (by rw [HN.out]; exact Nat.le_refl _)] at HO
        obtain ⟨A, hA⟩ : ∃ A, l.filter (M.check m) = A := ⟨_, rfl⟩
        have HAc : Hid (∀ o ∈ A, M.check us.length o = true) := fun o ho => by
          rw [HM.out]
          rw [← hA] at ho
          exact (List.mem_filter.1 ho).2
        have hA120 : A.length ≤ 120 := by
          have := List.length_filter_le (M.check m) l
          rw [hA, HN.out] at this
          omega
        have HAk : Hid (Few A) := fun o ho => by
          rw [← hA] at ho
          exact Nat.le_trans (HSm.out.keep o (List.mem_filter.1 ho).1) (by decide)
        rw [hA] at HO
        clear hA
        have hb3 := Lib.hid (below_next hb2.out hbr2.out)
        have HOs := Lib.hid (fun W (hW : Below wr.heap.size wr W) => (HO.out.below hW).os (below_next hb3.out hW))
        obtain ⟨a1, a2, hva, -⟩ := (HOs.out wr (Below.refl _ _)).shape
        have st := purge_any (.slice na nl nc) (.slice vua m vuc) (.slice qa ql qc) (.slice ga g gc) u10 us gs A (x : Int) wr (HCf.out.below hb3.out).u HCf.out.u64 (HCf.out.below hb3.out).g (HOs.out wr (Below.refl _ _)) (by omega) HAk.out (HT.out.below hb3.out)
        subst hva
        obtain ⟨na', hna⟩ : ∃ k, A.length = k := ⟨_, rfl⟩
        have HNA := Lib.hid hna
        rw [hna] at HOs st hA120
        rw [hna]
        have st := Lib.hid st
        have HC3 := Lib.hid (HC2.out.later hbr2.out)
        obtain ⟨q0, q1, q2, q3⟩ := HC3.out.cell
        clear hna HO HL HAk
        go_wp2_with fail
        refine st.out.mono ?_
        rintro e w4 ⟨vp, ws2, rfl, hob, hx⟩
        obtain ⟨Bp, hBp⟩ : ∃ B, L.purges us gs (L.down us (x : Int)) A = B := ⟨_, rfl⟩
        have HBP := Lib.hid hBp
        have hB120 : Bp.length ≤ 120 := by
          have h1 := L.purges_len us gs (L.down us (x : Int)) A
          rw [hBp, HNA.out] at h1
          omega
        rw [hBp] at hob
        have hb4 := Lib.hid (below_next hb3.out hx)
        have HPs := Lib.hid (fun W (hW : Below w4.heap.size w4 W) => (hob.below hW).os (below_next hx hW))
        have HAs := Lib.hid (fun W (hW : Below w4.heap.size w4 W) => HOs.out W (below_next hx hW))
        have HC4 := Lib.hid (HC3.out.later hx)
        obtain ⟨pa, pc, hvp, -⟩ := (HPs.out w4 (Below.refl _ _)).shape
        subst hvp
        obtain ⟨nb, hnb⟩ : ∃ k, Bp.length = k := ⟨_, rfl⟩
        have HNB := Lib.hid hnb
        rw [hnb] at HPs hB120
        rw [hnb]
        clear hnb hBp hob hx st q0 q1 q2 q3 HOs HC3 hb3 hbr2
        obtain ⟨uA, hUA⟩ := HAs.out w4 (Below.refl _ _)
        obtain ⟨uB, hUB⟩ := HPs.out w4 (Below.refl _ _)
        have hUA : OsF w4 (.slice a1 na' a2) uA A := hUA
        have hUB : OsF w4 (.slice pa nb pc) uB Bp := hUB
        obtain ⟨P, hP⟩ : ∃ P : World → Prop, (fun W => Cf W (.slice na nl nc) (.slice vua m vuc) (.slice qa ql qc) (.slice ga g gc) ns us qs gs ∧ OsF W (.slice a1 na' a2) uA A ∧ OsF W (.slice pa nb pc) uB Bp ∧ Cb W w.heap.size (.slice na nl nc) (.slice vua m vuc) (.slice qa ql qc) (.slice ga g gc)) = P := ⟨_, rfl⟩
        have HPP : Hid (∀ W, P W → Cf W (.slice na nl nc) (.slice vua m vuc) (.slice qa ql qc) (.slice ga g gc) ns us qs gs ∧ OsF W (.slice a1 na' a2) uA A ∧ OsF W (.slice pa nb pc) uB Bp ∧ Cb W w.heap.size (.slice na nl nc) (.slice vua m vuc) (.slice qa ql qc) (.slice ga g gc)) := by
          rw [← hP]
          exact fun W h => h
        have HFz : Hid (Fz (fun _ => False) w4 P) := by
          rw [← hP]
          exact Fz.of_below fun W hW => ⟨HCf.out.below (below_next hb4.out hW), hUA.below hW, hUB.below hW, HC4.out.later hW⟩
        have st := Lib.hid (new_any (fun _ => False) w4 (.slice na nl nc) (.slice vua m vuc) (.slice qa ql qc) (.slice ga g gc) ns us qs gs (HCf.out.below hb4.out) HOK.out (by rw [HM.out]; exact hm12) (fun k h => h.elim))
        rw [HM.out] at st
        obtain ⟨q0, q1, q2, q3⟩ := HC4.out.cell
        clear hP HPs HAs hUA hUB
        go_wp2_with fail
        refine st.out.mono ?_
        rintro e w5 ⟨Ba, Xa, rfl, hma, hfa, hx5⟩
        have hb5 := Lib.hid (below_next hb4.out hx5)
        have HMA : Hid (Mem (Xa.foot Ba) w5 Ba m (.slice na nl nc) (.slice vua m vuc) (.slice qa ql qc) (.slice ga g gc) Xa (M.new m)) := hma.narrow (fun k hk => .inr hk) (fun k hk => hk)
        have HFA := Lib.hid hfa
        have HFz5 : Hid (Fz (Xa.foot Ba) w5 P) := HFz.out.wide (Ex.of_below hx5) (fun k hk h => by have := hfa k h; omega)
        have HC5 := Lib.hid (HC4.out.later hx5)
        have st2 := Lib.hid (new_any (Xa.foot Ba) w5 (.slice na nl nc) (.slice vua m vuc) (.slice qa ql qc) (.slice ga g gc) ns us qs gs (HCf.out.below hb5.out) HOK.out (by rw [HM.out]; exact hm12) hma.lt')
        rw [HM.out] at st2
        clear q0 q1 q2 q3 st hma hfa hx5 HFz HC4
        obtain ⟨q0, q1, q2, q3⟩ := HC5.out.cell
        go_wp2_with fail
        refine st2.out.mono ?_
        rintro e w6 ⟨Bb, Xb0, rfl, hmb, hfb, hx6⟩
        have HPM : Hid (Pm P w6 w.heap.size m (.slice na nl nc) (.slice vua m vuc) (.slice qa ql qc) (.slice ga g gc) Ba Bb Xa Xb0 (M.new m) (M.new m) (.slice none 0 0) [] []) := pm_new HMA.out HFz5.out hb4.out.size HFA.out hb5.out.size hmb hfb hx6
        have hb6 := Lib.hid (below_next hb5.out hx6)
        clear q0 q1 q2 q3 st2 hmb hfb hx6 HMA HFA HFz5 HC5 hb5 hb4
        go_wp2_with fail
        go_loopw [17, 18] (fun t i wr => ∃ (k : Nat) (Xb : Mv) (mb : St) (ts : List (Value × Value)) (tl : List Res), k ≤ nb ∧ i = .int .i64 k ∧ Hid (Pm P wr w.heap.size m (.slice na nl nc) (.slice vua m vuc) (.slice qa ql qc) (.slice ga g gc) Ba Bb Xa Xb (M.new m) mb t ts tl) ∧ Hid (M.Few m k mb) ∧ Hid (tl ++ M.told us gs (x : Int) (Bp.drop k) mb = M.told us gs (x : Int) Bp (M.new m)) ∧ Hid (tl.length ≤ k) ∧ Hid (Below w.heap.size w wr)) (fun _ i _ => nb - (intOf i).toNat)
        case atStart => exact ⟨0, Xb0, M.new m, [], [], by omega, rfl, HPM, M.Few.new m, rfl, Nat.le_refl _, hb6⟩
        case round =>
          clear HPM hb6
          obtain ⟨k, Xb, mb, ts, tl, hk, rfl, HPM, HFW, HTL, HTN, hbr⟩ := hrel
          have HP0 := Lib.hid (HPP.out wr HPM.out.fz.here)
          by_cases hkn : k < nb
          · have hkI : (k : Int) < (nb : Int) := by omega
            have hk0 : (0 : Int) ≤ (k : Int) := by omega
            obtain ⟨b, off, u, hab, hks, hat⟩ := OsF.stay (fun W hW => (HPP.out W hW).2.2.1) HPM.out.fz.here (j := k) (by rw [HNB.out]; exact hkn)
            obtain ⟨ua, uc, rfl, -⟩ := hks.shape
            obtain ⟨uq, huq⟩ : ∃ q, (Bp[k]'(by rw [HNB.out]; exact hkn)).keep.length = q := ⟨_, rfl⟩
            rw [huq] at hat hks
            obtain ⟨o, ho⟩ : ∃ o, Bp[k]'(by rw [HNB.out]; exact hkn) = o := ⟨_, rfl⟩
            rw [ho] at hat hks
            have HGO := Lib.hid ho
            have HAT := Lib.hid hat
            have HKS := Lib.hid hks
            clear ho hat hks huq
            have HDR : Hid (Bp.drop k = o :: Bp.drop (k + 1)) := by
              unfold Hid
              rw [List.drop_eq_getElem_cons (by rw [HNB.out]; exact hkn), HGO.out]
            subst hab
            clear HGO
            obtain ⟨p0, p1, p2, p3, p4, p5, p6, p7, p8, p9, p10⟩ := HAT.out wr HPM.out.fz.here
            simp only [Op11.put] at p0 p1 p2 p3 p4 p5 p6 p7 p8 p9 p10
            have HIN := do_any (Gp Ba Bb Xa Xb u17) wr Bb m (.slice na nl nc) (.slice vua m vuc) (.slice qa ql qc) (.slice ga g gc) Xb mb o (.slice ua uq uc) HPM.out.b us gs HP0.out.1.u HCf.out.u64 HM.out HP0.out.1.g (by omega) (HFW.out.mono (by omega))
            have HFW2 := Lib.hid (HFW.out.do_ us gs o)
            have HTC := Lib.hid (M.told_cons us gs (x : Int) o (Bp.drop (k + 1)) mb)
            obtain ⟨r, hr⟩ : ∃ r, M.do_ us gs mb o = r := ⟨_, rfl⟩
            rw [hr] at HIN HFW2 HTC
            have HIN := Lib.hid HIN
            obtain ⟨sn, hsn⟩ : ∃ b, L.seen (fun a => L.leq us a (x : Int)) o = b := ⟨_, rfl⟩
            have HSN := Lib.hid hsn
            rw [hsn] at HTC
            clear hr hsn HFW HP0
            go_wp2_with fail
            refine HIN.out.mono ?_
            rintro e w6 ⟨Xb', vr, vc, rfl, hL, hR, hC⟩
            obtain ⟨ra, rc, hvr, -⟩ := (hR.here).shape
            obtain ⟨ca, cc, hvc, -⟩ := Sl.shape hC.here
            have HP2 := Lib.hid (HPM.out.stepb hbr.out.size hL)
            have HR2 : Hid (Fz (Gp Ba Bb Xa Xb' u17) w6 (fun W => Rs W vr r.1.rows)) := Pm.toldb hR
            have HC2' : Hid (Fz (Gp Ba Bb Xa Xb' u17) w6 (fun W => Rv W vc r.1.recs)) := Pm.toldb hC
            have hb6 : Hid (Below w.heap.size w w6) := hbr.out.trans (hL.ex.under (fun k hk => HPM.out.low k (.inl (.inr hk))) hbr.out.size)
            obtain ⟨rn, hrn⟩ : ∃ k, r.1.rows.length = k := ⟨_, rfl⟩
            obtain ⟨cn, hcn⟩ : ∃ k, r.1.recs.length = k := ⟨_, rfl⟩
            rw [hrn] at hvr
            rw [hcn] at hvc
            subst hvr hvc
            obtain ⟨re, hre⟩ : ∃ k, r.1.e = k := ⟨_, rfl⟩
            obtain ⟨rm, hrm⟩ : ∃ k, r.1.n = k := ⟨_, rfl⟩
            have HRE := Lib.hid hre
            have HRM := Lib.hid hrm
            rw [hre, hrm]
            clear hre hrm hrn hcn hL hR hC HIN HPM hbr p0 p1 p2 p3 p4 p5 p6 p7 p8 p9 p10 HKS
            go_wp2_with fail
            have hba : Below w6.heap.size w6 (w6.alloc (.cells #[.int .i64 re, .int .i64 rm, .slice ra rn rc, .int .i64 0, .int .i64 0, .int .i64 0, .int .i64 0, .slice ca cn cc] 45)) := (Below.refl _ _).alloc (Nat.le_refl _) _
            have HPM := Lib.hid (HP2.out.below hba)
            have HR3 := Lib.hid (HR2.out.below hba)
            have HC3' := Lib.hid (HC2'.out.below hba)
            have hbr : Hid (Below w.heap.size w (w6.alloc (.cells #[.int .i64 re, .int .i64 rm, .slice ra rn rc, .int .i64 0, .int .i64 0, .int .i64 0, .int .i64 0, .slice ca cn cc] 45))) := hb6.out.trans (hba.mono hb6.out.size)
            have HRB : Hid (Rb (w6.alloc (.cells #[.int .i64 re, .int .i64 rm, .slice ra rn rc, .int .i64 0, .int .i64 0, .int .i64 0, .int .i64 0, .slice ca cn cc] 45)) w6.heap.size re rm (.slice ra rn rc) (.slice ca cn cc)) := heap_alloc_new _ _
            clear hba HP2 HR2 HC2' hb6
            obtain ⟨Q, hQ⟩ : ∃ q, w6.heap.size = q := ⟨_, rfl⟩
            obtain ⟨w7, hw7⟩ : ∃ W, w6.alloc (.cells #[.int .i64 re, .int .i64 rm, .slice ra rn rc, .int .i64 0, .int .i64 0, .int .i64 0, .int .i64 0, .slice ca cn cc] 45) = W := ⟨_, rfl⟩
            rw [hw7] at HPM HR3 HC3' hbr HRB ⊢
            rw [hQ] at HRB ⊢
            clear hw7 hQ
            refine wp_region_mix ext_grow [(0, false), (1, false), (2, false), (3, false), (4, false), (5, false), (6, false), (7, false)] (by kernel_rfl) (by kernel_rfl) ?_
            have HPq := Lib.hid (HPM.out.below (Below.drew (Below.refl _ _)))
            have hbq := Lib.hid (hbr.out.trans ((Below.drew (Below.refl w7.heap.size w7)).mono hbr.out.size))
            have HR4 := Lib.hid (HR3.out.below (Below.drew (Below.refl _ _)))
            have HC4 := Lib.hid (HC3'.out.below (Below.drew (Below.refl _ _)))
            have HRB4 : Hid (Rb w7.drew Q re rm (.slice ra rn rc) (.slice ca cn cc)) := HRB.out
            clear HR3 HC3' HRB
            clear HPM hbr
            generalize w7.drew = wd at *
            have HPM := HPq
            have hbr := hbq
            clear HPq hbq
            have HPW : Hid (∀ z : Later wd, P z.1) := fun z => (HPM.out.below z.2).fz.here
            have c1 : ∀ z : Later wd, z.1.cell? ⟨w.heap.size, 1, none⟩ = some (.slice vua m vuc) := fun z => (HPP.out _ (HPW.out z)).2.2.2.cell.2.1
            have p0 : ∀ z : Later wd, z.1.cell? ⟨b, off + k * 11, none⟩ = some (.int .i64 o.kind) := fun z => (HAT.out z.1 (HPW.out z)).c0
            have p1 : ∀ z : Later wd, z.1.cell? ⟨b, off + k * 11 + 1, none⟩ = some (.int .i64 o.level) := fun z => (HAT.out z.1 (HPW.out z)).c1
            have p2 : ∀ z : Later wd, z.1.cell? ⟨b, off + k * 11 + 2, none⟩ = some (.int .i64 o.ses) := fun z => (HAT.out z.1 (HPW.out z)).c2
            have p3 : ∀ z : Later wd, z.1.cell? ⟨b, off + k * 11 + 3, none⟩ = some (.int .i64 o.snap) := fun z => (HAT.out z.1 (HPW.out z)).c3
            have p4 : ∀ z : Later wd, z.1.cell? ⟨b, off + k * 11 + 4, none⟩ = some (.string (str o.bucket)) := fun z => (HAT.out z.1 (HPW.out z)).c4
            have p5 : ∀ z : Later wd, z.1.cell? ⟨b, off + k * 11 + 5, none⟩ = some (.string (str o.key)) := fun z => (HAT.out z.1 (HPW.out z)).c5
            have p6 : ∀ z : Later wd, z.1.cell? ⟨b, off + k * 11 + 6, none⟩ = some (.string (str o.val)) := fun z => (HAT.out z.1 (HPW.out z)).c6
            have p7 : ∀ z : Later wd, z.1.cell? ⟨b, off + k * 11 + 7, none⟩ = some (.int .i64 o.label) := fun z => (HAT.out z.1 (HPW.out z)).c7
            have p8 : ∀ z : Later wd, z.1.cell? ⟨b, off + k * 11 + 8, none⟩ = some (.int .i64 o.to) := fun z => (HAT.out z.1 (HPW.out z)).c8
            have p9 : ∀ z : Later wd, z.1.cell? ⟨b, off + k * 11 + 9, none⟩ = some (.int .i64 o.n) := fun z => (HAT.out z.1 (HPW.out z)).c9
            have p10 : ∀ z : Later wd, z.1.cell? ⟨b, off + k * 11 + 10, none⟩ = some (.slice ua uq uc) := fun z => (HAT.out z.1 (HPW.out z)).c10
            have HCy : Hid (∀ z : Later wd, Calls Tryd.prog 10 #[.slice vua m vuc, opv (o.put (.slice ua uq uc)), .int .i64 (x : Int)] z.1 fun e w' => e = .returned (.bool sn) ∧ Ext z.1 w') := fun z => by
              have h := refSeen_any (.slice vua m vuc) us o (.slice ua uq uc) (x : Int) z.1 (HPP.out _ (HPW.out z)).1.u HCf.out.u64
              rw [HSN.out] at h
              exact h
            repeat (refine mix_soft rfl (fun K hK => ?_); go_simp; (first | (refine hK _ ?_; clear hK K) | (apply Exists.intro; refine ⟨fun z => ?_, hK _ ?_⟩; (first | (go_at_call 10; exact HCy.out z)); clear hK K)))
            refine mix_done fun w9 hx => ?_
            have HPq := Lib.hid (HPM.out.below hx)
            have hbq := Lib.hid (hbr.out.trans (hx.mono hbr.out.size))
            have HR5 := Lib.hid (HR4.out.below hx)
            have HC5 := Lib.hid (HC4.out.below hx)
            have HRB5 := Lib.hid (HRB4.out.later hx)
            clear HR4 HC4 HRB4
            clear HPM hbr HPW c1 p0 p1 p2 p3 p4 p5 p6 p7 p8 p9 p10 HCy hx
            have HPM := HPq
            have hbr := hbq
            clear HPq hbq
            cases sn with
            | false =>
              have HTL2 : Hid (tl ++ M.told us gs (x : Int) (Bp.drop (k + 1)) r.2 = M.told us gs (x : Int) Bp (M.new m)) := by
                unfold Hid
                rw [← HTL.out, HDR.out, HTC.out, if_neg (by decide), List.nil_append]
              have HTN2 : Hid (tl.length ≤ k + 1) := Nat.le_succ_of_le HTN.out
              clear HTL HDR HTC HTN
              go_wp2_with fail
              go_roundw
              case rel => exact ⟨k + 1, Xb', r.2, ts, tl, by omega, by go_num, HPM, HFW2, HTL2, HTN2, hbr⟩
              case measure => simp [intOf]; omega
            | true =>
              have HTL2 : Hid ((tl ++ [r.1]) ++ M.told us gs (x : Int) (Bp.drop (k + 1)) r.2 = M.told us gs (x : Int) Bp (M.new m)) := by
                unfold Hid
                rw [← HTL.out, HDR.out, HTC.out, if_pos rfl, List.append_assoc]
              have HTN2 : Hid ((tl ++ [r.1]).length ≤ k + 1) := by
                have := HTN.out
                unfold Hid
                rw [List.length_append]
                simpa using this
              obtain ⟨y0, y1, y2, y3, y4, y5, y6, y7⟩ := HRB5.out.cells
              have hba : Below w9.heap.size w9 (w9.alloc (.cells #[.int .i64 re, .int .i64 rm, .slice ra rn rc, .int .i64 0, .int .i64 0, .int .i64 0, .int .i64 0, .slice ca cn cc] 45)) := (Below.refl _ _).alloc (Nat.le_refl _) _
              have HPa := Lib.hid (HPM.out.below hba)
              have HRa := Lib.hid (HR5.out.below hba)
              have HCa := Lib.hid (HC5.out.below hba)
              have hbra : Hid (Below w.heap.size w (w9.alloc (.cells #[.int .i64 re, .int .i64 rm, .slice ra rn rc, .int .i64 0, .int .i64 0, .int .i64 0, .int .i64 0, .slice ca cn cc] 45))) := hbr.out.trans (hba.mono hbr.out.size)
              have HSa : Hid (Sl (w9.alloc (.cells #[.int .i64 re, .int .i64 rm, .slice ra rn rc, .int .i64 0, .int .i64 0, .int .i64 0, .int .i64 0, .slice ca cn cc] 45)) 8 1 (.slice (some ⟨w9.heap.size, 0, none⟩) 1 1) [.int .i64 re, .int .i64 rm, .slice ra rn rc, .int .i64 0, .int .i64 0, .int .i64 0, .int .i64 0, .slice ca cn cc]) := Sl.lit w9 45 8 1 #[.int .i64 re, .int .i64 rm, .slice ra rn rc, .int .i64 0, .int .i64 0, .int .i64 0, .int .i64 0, .slice ca cn cc] (0, 0) rfl (by decide)
              obtain ⟨tn, htn⟩ : ∃ q, tl.length = q := ⟨_, rfl⟩
              have hown := HPa.out.own
              have htk := HTN.out
              rw [htn] at hown htk
              have HOW := Lib.hid hown
              have HTQ := Lib.hid htn
              clear hba hown htn HPM HR5 HC5 hbr HRB5 HTL HDR HTC HTN
              go_wp2_with (at_builtin; go_must (refine wpList_append_st rfl _ _ 39 rfl w.heap.size 45 _ 8 96 Tryd.underlying39 infoRes rfl (by decide) u17 tn _ rfl HOW.out _ 1 [.int .i64 re, .int .i64 rm, .slice ra rn rc, .int .i64 0, .int .i64 0, .int .i64 0, .int .i64 0, .slice ca cn cc] rfl HSa.out (by simp; exact ⟨rfl, rfl, rfl, rfl, rfl⟩) (by unfold maxLen; omega) (by omega) hbra.out.size ?_))
              intro v8 w8 hown hgr hsame
              have HP8 : Hid (Pm P w8 w.heap.size m (.slice na nl nc) (.slice vua m vuc) (.slice qa ql qc) (.slice ga g gc) Ba Bb Xa Xb' (M.new m) r.2 v8 (ts ++ [(.slice ra rn rc, .slice ca cn cc)]) (tl ++ [r.1])) := HPa.out.push hbra.out.size hgr (by
                rw [HTQ.out]
                unfold rs1
                simp only [HRE.out, HRM.out]
                exact hown) (hsame.imp id fun h k hk => by have := h k hk; simpa using this) HRa.out HCa.out
              have hb8 : Hid (Below w.heap.size w w8) := hbra.out.trans ((ex_grown (G := fun k => u17.ownBlock = some k) hgr fun k hk => hk).under (fun k hk => HPa.out.low k (.inr hk)) hbra.out.size)
              clear hown hgr hsame HPa HRa HCa HSa hbra HOW HTQ y0 y1 y2 y3 y4 y5 y6 y7
              go_wp2_with fail
              go_roundw
              case rel => exact ⟨k + 1, Xb', r.2, ts ++ [(.slice ra rn rc, .slice ca cn cc)], tl ++ [r.1], by omega, by go_num, HP8, HFW2, HTL2, HTN2, hb8⟩
              case measure => simp [intOf]; omega
          · have hkI : ¬ ((k : Int) < (nb : Int)) := by omega
            obtain rfl : k = nb := by omega
            have HTE : Hid (tl.drop 0 = M.told us gs (x : Int) (A.drop 0) (M.new m)) := by
              have h1 := HTL.out
              rw [List.drop_of_length_le (by rw [HNB.out]; exact Nat.le_refl _)] at h1
              unfold Hid
              rw [List.drop_zero, List.drop_zero, ← M.told_purges HLat.out HSm.out.grants (x : Int) A HAc.out (M.new m) (M.new m) rfl, HBP.out, ← h1]
              simp [M.told]
            obtain ⟨ta, tc, hut, -⟩ := (Sl.of_owns HPM.out.own).shape
            obtain ⟨tn, htn⟩ : ∃ k, tl.length = k := ⟨_, rfl⟩
            have HTQ := Lib.hid htn
            rw [htn] at hut
            have htk := HTN.out
            rw [htn] at htk
            subst hut
            clear HTL htn HTN HFW HP0
            go_wp2_with fail
            go_loopw [20, 21] (fun t i wr => ∃ (j q : Nat) (Xc : Mv) (ma : St), j ≤ na' ∧ i = .int .i64 j ∧ t = .int .i64 q ∧ q ≤ tn ∧ Hid (Pm P wr w.heap.size m (.slice na nl nc) (.slice vua m vuc) (.slice qa ql qc) (.slice ga g gc) Ba Bb Xc Xb ma mb (.slice ta tn tc) ts tl) ∧ Hid (M.Few m j ma) ∧ Hid (tl.drop q = M.told us gs (x : Int) (A.drop j) ma) ∧ Hid (Below w.heap.size w wr)) (fun _ i _ => na' - (intOf i).toNat)
            case atStart => exact ⟨0, 0, Xa, M.new m, by omega, rfl, rfl, by omega, HPM, M.Few.new m, HTE, hbr⟩
            case round =>
              clear HPM hbr HTE
              obtain ⟨j, q, Xc, ma, hj, rfl, rfl, hq, HPM, HFW, HTL, hbr⟩ := hrel
              have HP0 := Lib.hid (HPP.out _ HPM.out.fz.here)
              by_cases hjn : j < na'
              · have hjI : (j : Int) < (na' : Int) := by omega
                have hj0 : (0 : Int) ≤ (j : Int) := by omega
                obtain ⟨b, off, u, hab, hks, hat⟩ := OsF.stay (fun W hW => (HPP.out W hW).2.1) HPM.out.fz.here (j := j) (by rw [HNA.out]; exact hjn)
                obtain ⟨ua, uc, rfl, -⟩ := hks.shape
                obtain ⟨uq, huq⟩ : ∃ q, (A[j]'(by rw [HNA.out]; exact hjn)).keep.length = q := ⟨_, rfl⟩
                rw [huq] at hat hks
                obtain ⟨o, ho⟩ : ∃ o, A[j]'(by rw [HNA.out]; exact hjn) = o := ⟨_, rfl⟩
                rw [ho] at hat hks
                have HGO := Lib.hid ho
                have HAT := Lib.hid hat
                have HKS := Lib.hid hks
                clear ho hat hks huq
                have HDR : Hid (A.drop j = o :: A.drop (j + 1)) := by
                  unfold Hid
                  rw [List.drop_eq_getElem_cons (by rw [HNA.out]; exact hjn), HGO.out]
                subst hab
                clear HGO
                obtain ⟨p0, p1, p2, p3, p4, p5, p6, p7, p8, p9, p10⟩ := HAT.out _ HPM.out.fz.here
                simp only [Op11.put] at p0 p1 p2 p3 p4 p5 p6 p7 p8 p9 p10
                have HIN := do_any (Gp Ba Bb Xc Xb (.slice ta tn tc)) wr Ba m (.slice na nl nc) (.slice vua m vuc) (.slice qa ql qc) (.slice ga g gc) Xc ma o (.slice ua uq uc) HPM.out.a us gs HP0.out.1.u HCf.out.u64 HM.out HP0.out.1.g (by omega) (HFW.out.mono (by omega))
                have HFW2 := Lib.hid (HFW.out.do_ us gs o)
                have HTC := Lib.hid (M.told_cons us gs (x : Int) o (A.drop (j + 1)) ma)
                obtain ⟨r, hr⟩ : ∃ r, M.do_ us gs ma o = r := ⟨_, rfl⟩
                rw [hr] at HIN HFW2 HTC
                have HIN := Lib.hid HIN
                obtain ⟨sn, hsn⟩ : ∃ b, L.seen (fun a => L.leq us a (x : Int)) o = b := ⟨_, rfl⟩
                have HSN := Lib.hid hsn
                rw [hsn] at HTC
                clear hr hsn HFW HP0
                go_wp2_with fail
                refine HIN.out.mono ?_
                rintro e w6 ⟨Xc', vr, vc, rfl, hL, hR, hC⟩
                obtain ⟨ra, rc, hvr, -⟩ := (hR.here).shape
                obtain ⟨ca, cc, hvc, -⟩ := Sl.shape hC.here
                have HP2 := Lib.hid (HPM.out.step hbr.out.size hL)
                have HR2 : Hid (Fz (Gp Ba Bb Xc' Xb (.slice ta tn tc)) w6 (fun W => Rs W vr r.1.rows)) := Pm.told hR
                have HC2' : Hid (Fz (Gp Ba Bb Xc' Xb (.slice ta tn tc)) w6 (fun W => Rv W vc r.1.recs)) := Pm.told hC
                have hb6 : Hid (Below w.heap.size w w6) := hbr.out.trans (hL.ex.under (fun k hk => HPM.out.low k (.inl (.inl hk))) hbr.out.size)
                obtain ⟨rn, hrn⟩ : ∃ k, r.1.rows.length = k := ⟨_, rfl⟩
                obtain ⟨cn, hcn⟩ : ∃ k, r.1.recs.length = k := ⟨_, rfl⟩
                rw [hrn] at hvr
                rw [hcn] at hvc
                subst hvr hvc
                obtain ⟨re, hre⟩ : ∃ k, r.1.e = k := ⟨_, rfl⟩
                obtain ⟨rm, hrm⟩ : ∃ k, r.1.n = k := ⟨_, rfl⟩
                have HRE := Lib.hid hre
                have HRM := Lib.hid hrm
                rw [hre, hrm]
                clear hre hrm hrn hcn hL hR hC HIN HPM hbr p0 p1 p2 p3 p4 p5 p6 p7 p8 p9 p10 HKS
                go_wp2_with fail
                have hba : Below w6.heap.size w6 (w6.alloc (.cells #[.int .i64 re, .int .i64 rm, .slice ra rn rc, .int .i64 0, .int .i64 0, .int .i64 0, .int .i64 0, .slice ca cn cc] 45)) := (Below.refl _ _).alloc (Nat.le_refl _) _
                have HPM := Lib.hid (HP2.out.below hba)
                have HR3 := Lib.hid (HR2.out.below hba)
                have HC3' := Lib.hid (HC2'.out.below hba)
                have hbr : Hid (Below w.heap.size w (w6.alloc (.cells #[.int .i64 re, .int .i64 rm, .slice ra rn rc, .int .i64 0, .int .i64 0, .int .i64 0, .int .i64 0, .slice ca cn cc] 45))) := hb6.out.trans (hba.mono hb6.out.size)
                have HRB : Hid (Rb (w6.alloc (.cells #[.int .i64 re, .int .i64 rm, .slice ra rn rc, .int .i64 0, .int .i64 0, .int .i64 0, .int .i64 0, .slice ca cn cc] 45)) w6.heap.size re rm (.slice ra rn rc) (.slice ca cn cc)) := heap_alloc_new _ _
                clear hba HP2 HR2 HC2' hb6
                obtain ⟨Q, hQ⟩ : ∃ q, w6.heap.size = q := ⟨_, rfl⟩
                obtain ⟨w7, hw7⟩ : ∃ W, w6.alloc (.cells #[.int .i64 re, .int .i64 rm, .slice ra rn rc, .int .i64 0, .int .i64 0, .int .i64 0, .int .i64 0, .slice ca cn cc] 45) = W := ⟨_, rfl⟩
                rw [hw7] at HPM HR3 HC3' hbr HRB ⊢
                rw [hQ] at HRB ⊢
                clear hw7 hQ
                refine wp_region_mix ext_grow [(0, false), (1, false), (2, false), (3, false), (4, false), (5, false), (6, false), (7, false), (8, false)] (by kernel_rfl) (by kernel_rfl) ?_
                have HPq := Lib.hid (HPM.out.below (Below.drew (Below.refl _ _)))
                have hbq := Lib.hid (hbr.out.trans ((Below.drew (Below.refl w7.heap.size w7)).mono hbr.out.size))
                have HR4 := Lib.hid (HR3.out.below (Below.drew (Below.refl _ _)))
                have HC4 := Lib.hid (HC3'.out.below (Below.drew (Below.refl _ _)))
                have HRB4 : Hid (Rb w7.drew Q re rm (.slice ra rn rc) (.slice ca cn cc)) := HRB.out
                clear HR3 HC3' HRB
                clear HPM hbr
                generalize w7.drew = wd at *
                have HPM := HPq
                have hbr := hbq
                clear HPq hbq
                have HPW : Hid (∀ z : Later wd, P z.1) := fun z => (HPM.out.below z.2).fz.here
                have c1 : ∀ z : Later wd, z.1.cell? ⟨w.heap.size, 1, none⟩ = some (.slice vua m vuc) := fun z => (HPP.out _ (HPW.out z)).2.2.2.cell.2.1
                have p0 : ∀ z : Later wd, z.1.cell? ⟨b, off + j * 11, none⟩ = some (.int .i64 o.kind) := fun z => (HAT.out z.1 (HPW.out z)).c0
                have p1 : ∀ z : Later wd, z.1.cell? ⟨b, off + j * 11 + 1, none⟩ = some (.int .i64 o.level) := fun z => (HAT.out z.1 (HPW.out z)).c1
                have p2 : ∀ z : Later wd, z.1.cell? ⟨b, off + j * 11 + 2, none⟩ = some (.int .i64 o.ses) := fun z => (HAT.out z.1 (HPW.out z)).c2
                have p3 : ∀ z : Later wd, z.1.cell? ⟨b, off + j * 11 + 3, none⟩ = some (.int .i64 o.snap) := fun z => (HAT.out z.1 (HPW.out z)).c3
                have p4 : ∀ z : Later wd, z.1.cell? ⟨b, off + j * 11 + 4, none⟩ = some (.string (str o.bucket)) := fun z => (HAT.out z.1 (HPW.out z)).c4
                have p5 : ∀ z : Later wd, z.1.cell? ⟨b, off + j * 11 + 5, none⟩ = some (.string (str o.key)) := fun z => (HAT.out z.1 (HPW.out z)).c5
                have p6 : ∀ z : Later wd, z.1.cell? ⟨b, off + j * 11 + 6, none⟩ = some (.string (str o.val)) := fun z => (HAT.out z.1 (HPW.out z)).c6
                have p7 : ∀ z : Later wd, z.1.cell? ⟨b, off + j * 11 + 7, none⟩ = some (.int .i64 o.label) := fun z => (HAT.out z.1 (HPW.out z)).c7
                have p8 : ∀ z : Later wd, z.1.cell? ⟨b, off + j * 11 + 8, none⟩ = some (.int .i64 o.to) := fun z => (HAT.out z.1 (HPW.out z)).c8
                have p9 : ∀ z : Later wd, z.1.cell? ⟨b, off + j * 11 + 9, none⟩ = some (.int .i64 o.n) := fun z => (HAT.out z.1 (HPW.out z)).c9
                have p10 : ∀ z : Later wd, z.1.cell? ⟨b, off + j * 11 + 10, none⟩ = some (.slice ua uq uc) := fun z => (HAT.out z.1 (HPW.out z)).c10
                have HCy : Hid (∀ z : Later wd, Calls Tryd.prog 10 #[.slice vua m vuc, opv (o.put (.slice ua uq uc)), .int .i64 (x : Int)] z.1 fun e w' => e = .returned (.bool sn) ∧ Ext z.1 w') := fun z => by
                  have h := refSeen_any (.slice vua m vuc) us o (.slice ua uq uc) (x : Int) z.1 (HPP.out _ (HPW.out z)).1.u HCf.out.u64
                  rw [HSN.out] at h
                  exact h
                repeat (refine mix_soft rfl (fun K hK => ?_); go_simp; (first | (refine hK _ ?_; clear hK K) | (apply Exists.intro; refine ⟨fun z => ?_, hK _ ?_⟩; (first | (go_at_call 10; exact HCy.out z)); clear hK K)))
                refine mix_done fun w9 hx => ?_
                have HPq := Lib.hid (HPM.out.below hx)
                have hbq := Lib.hid (hbr.out.trans (hx.mono hbr.out.size))
                have HR5 := Lib.hid (HR4.out.below hx)
                have HC5 := Lib.hid (HC4.out.below hx)
                have HRB5 := Lib.hid (HRB4.out.later hx)
                clear HR4 HC4 HRB4
                clear HPM hbr HPW c1 p0 p1 p2 p3 p4 p5 p6 p7 p8 p9 p10 HCy hx
                have HPM := HPq
                have hbr := hbq
                clear HPq hbq
                cases sn with
                | false =>
                  have HTL2 : Hid (tl.drop q = M.told us gs (x : Int) (A.drop (j + 1)) r.2) := by
                    unfold Hid
                    rw [HTL.out, HDR.out, HTC.out, if_neg (by decide), List.nil_append]
                  clear HTL HDR HTC HR5 HC5 HRB5
                  go_wp2_with fail
                  go_roundw
                  case rel => exact ⟨j + 1, q, Xc', r.2, by omega, by go_num, rfl, hq, HPM, HFW2, HTL2, hbr⟩
                  case measure => simp [intOf]; omega
                | true =>
                  have HTL2 : Hid (tl.drop q = r.1 :: M.told us gs (x : Int) (A.drop (j + 1)) r.2) := by
                    unfold Hid
                    rw [HTL.out, HDR.out, HTC.out, if_pos rfl]
                    rfl
                  have hqn : q < tn := by
                    rcases Nat.lt_or_ge q tn with h | h
                    · exact h
                    · have h2 := HTL2.out
                      rw [List.drop_of_length_le (by rw [HTQ.out]; exact h)] at h2
                      cases h2
                  have HTR : Hid (tl[q]'(by rw [HTQ.out]; exact hqn) = r.1 ∧ tl.drop (q + 1) = M.told us gs (x : Int) (A.drop (j + 1)) r.2) := by
                    have h2 := HTL2.out
                    rw [List.drop_eq_getElem_cons (by rw [HTQ.out]; exact hqn)] at h2
                    exact ⟨(List.cons.inj h2).1, (List.cons.inj h2).2⟩
                  have hqI : (q : Int) < (tn : Int) := by omega
                  have hq0 : (0 : Int) ≤ (q : Int) := by omega
                  have dq : decide ((tn : Int) ≤ (q : Int)) = false := by simp; omega
                  clear HTL HDR HTC HTL2
                  go_wp2_with fail
                  refine wp_region_mix ext_grow [(0, false), (1, false), (2, false), (3, false), (4, false), (5, false), (6, false), (7, false), (8, false), (9, false), (10, false), (11, false), (12, false)] (by kernel_rfl) (by kernel_rfl) ?_
                  have HPq := Lib.hid (HPM.out.below (Below.drew (Below.refl _ _)))
                  have HR6 := Lib.hid (HR5.out.below (Below.drew (Below.refl _ _)))
                  have HC6 := Lib.hid (HC5.out.below (Below.drew (Below.refl _ _)))
                  have HRB6 : Hid (Rb w9.drew Q re rm (.slice ra rn rc) (.slice ca cn cc)) := HRB5.out
                  have hbq : Hid (Below w.heap.size w w9.drew) := hbr.out.drew
                  clear HPM hbr HR5 HC5 HRB5
                  generalize w9.drew = wd at *
                  obtain ⟨b8, off8, hta, hat8⟩ := HPq.out.tat (q := q) (by rw [HTQ.out]; exact hqn)
                  have hln : q < ts.length := by rw [HPq.out.len, HTQ.out]; exact hqn
                  have hrd := HPq.out.rd
                  have HRD : Hid (∀ z : Later wd, Rs z.1 (ts[q]'hln).1 r.1.rows ∧ Rv z.1 (ts[q]'hln).2 r.1.recs) := fun z => by
                    have h := hrd.at z.2 q hln (by rw [HTQ.out]; exact hqn)
                    rw [HTR.out.1] at h
                    exact h
                  have HC8 : Hid (∀ z : Later wd, z.1.cell? ⟨b8, off8 + q * 8, none⟩ = some (.int .i64 re) ∧ z.1.cell? ⟨b8, off8 + q * 8 + 1, none⟩ = some (.int .i64 rm) ∧ z.1.cell? ⟨b8, off8 + q * 8 + 2, none⟩ = some (ts[q]'hln).1 ∧ z.1.cell? ⟨b8, off8 + q * 8 + 3, none⟩ = some (.int .i64 0) ∧ z.1.cell? ⟨b8, off8 + q * 8 + 4, none⟩ = some (.int .i64 0) ∧ z.1.cell? ⟨b8, off8 + q * 8 + 5, none⟩ = some (.int .i64 0) ∧ z.1.cell? ⟨b8, off8 + q * 8 + 6, none⟩ = some (.int .i64 0) ∧ z.1.cell? ⟨b8, off8 + q * 8 + 7, none⟩ = some (ts[q]'hln).2) := fun z => by
                    have h := hat8 z.1 z.2
                    rw [HTR.out.1, HRE.out, HRM.out] at h
                    exact h
                  obtain ⟨tv, htv⟩ : ∃ t, ts[q]'hln = t := ⟨_, rfl⟩
                  rw [htv] at HRD HC8
                  obtain ⟨t1, t2⟩ := tv
                  simp only [] at HRD HC8
                  have HSA : Hid (∀ z : Later wd, Calls Tryd.prog 11 #[resv re rm (.slice ra rn rc) (.slice ca cn cc), resv re rm t1 t2] z.1 fun e w' => e = .returned (.bool true) ∧ Ext z.1 w') := fun z => resSame_any re rm r.1.rows r.1.recs (.slice ra rn rc) (.slice ca cn cc) t1 t2 z.1 (HR6.out.at z.2) (HRD.out z).1 (HC6.out.at z.2) (HRD.out z).2
                  subst hta
                  clear htv hat8 hrd hln
                  have y0 : ∀ z : Later wd, z.1.cell? ⟨Q, 0, none⟩ = some (.int .i64 re) := fun z => (HRB6.out.later z.2).cells.1
                  have y1 : ∀ z : Later wd, z.1.cell? ⟨Q, 1, none⟩ = some (.int .i64 rm) := fun z => (HRB6.out.later z.2).cells.2.1
                  have y2 : ∀ z : Later wd, z.1.cell? ⟨Q, 2, none⟩ = some (.slice ra rn rc) := fun z => (HRB6.out.later z.2).cells.2.2.1
                  have y3 : ∀ z : Later wd, z.1.cell? ⟨Q, 3, none⟩ = some (.int .i64 0) := fun z => (HRB6.out.later z.2).cells.2.2.2.1
                  have y4 : ∀ z : Later wd, z.1.cell? ⟨Q, 4, none⟩ = some (.int .i64 0) := fun z => (HRB6.out.later z.2).cells.2.2.2.2.1
                  have y5 : ∀ z : Later wd, z.1.cell? ⟨Q, 5, none⟩ = some (.int .i64 0) := fun z => (HRB6.out.later z.2).cells.2.2.2.2.2.1
                  have y6 : ∀ z : Later wd, z.1.cell? ⟨Q, 6, none⟩ = some (.int .i64 0) := fun z => (HRB6.out.later z.2).cells.2.2.2.2.2.2.1
                  have y7 : ∀ z : Later wd, z.1.cell? ⟨Q, 7, none⟩ = some (.slice ca cn cc) := fun z => (HRB6.out.later z.2).cells.2.2.2.2.2.2.2
                  have k0 : ∀ z : Later wd, z.1.cell? ⟨b8, off8 + q * 8, none⟩ = some (.int .i64 re) := fun z => (HC8.out z).1
                  have k1 : ∀ z : Later wd, z.1.cell? ⟨b8, off8 + q * 8 + 1, none⟩ = some (.int .i64 rm) := fun z => (HC8.out z).2.1
                  have k2 : ∀ z : Later wd, z.1.cell? ⟨b8, off8 + q * 8 + 2, none⟩ = some (t1) := fun z => (HC8.out z).2.2.1
                  have k3 : ∀ z : Later wd, z.1.cell? ⟨b8, off8 + q * 8 + 3, none⟩ = some (.int .i64 0) := fun z => (HC8.out z).2.2.2.1
                  have k4 : ∀ z : Later wd, z.1.cell? ⟨b8, off8 + q * 8 + 4, none⟩ = some (.int .i64 0) := fun z => (HC8.out z).2.2.2.2.1
                  have k5 : ∀ z : Later wd, z.1.cell? ⟨b8, off8 + q * 8 + 5, none⟩ = some (.int .i64 0) := fun z => (HC8.out z).2.2.2.2.2.1
                  have k6 : ∀ z : Later wd, z.1.cell? ⟨b8, off8 + q * 8 + 6, none⟩ = some (.int .i64 0) := fun z => (HC8.out z).2.2.2.2.2.2.1
                  have k7 : ∀ z : Later wd, z.1.cell? ⟨b8, off8 + q * 8 + 7, none⟩ = some (t2) := fun z => (HC8.out z).2.2.2.2.2.2.2
                  repeat (refine mix_soft rfl (fun K hK => ?_); go_simp; (first | (refine hK _ ?_; clear hK K) | (apply Exists.intro; refine ⟨fun z => ?_, hK _ ?_⟩; (first | (go_at_call 11; exact HSA.out z)); clear hK K)))
                  refine mix_done fun w10 hx => ?_
                  have HPM := Lib.hid (HPq.out.below hx)
                  have hbr := Lib.hid (hbq.out.trans (hx.mono hbq.out.size))
                  have HTL3 := Lib.hid HTR.out.2
                  clear HPq hbq hx HR6 HC6 HRB6 HRD HC8 HSA y0 y1 y2 y3 y4 y5 y6 y7 k0 k1 k2 k3 k4 k5 k6 k7 dq HTR
                  go_wp2_with fail
                  go_roundw
                  case rel => exact ⟨j + 1, q + 1, Xc', r.2, by omega, by go_num, by go_num, by omega, HPM, HFW2, HTL3, hbr⟩
                  case measure => simp [intOf]; omega
              · have hjI : ¬ ((j : Int) < (na' : Int)) := by omega
                obtain rfl : j = na' := by omega
                obtain rfl : q = tn := by
                  have h1 := HTL.out
                  have h2 : M.told us gs (x : Int) [] ma = [] := rfl
                  rw [List.drop_of_length_le (l := A) (by rw [HNA.out]; exact Nat.le_refl _), h2] at h1
                  have h3 := congrArg List.length h1
                  rw [List.length_drop, HTQ.out, List.length_nil] at h3
                  omega
                go_wp2_with fail
                go_ret
                exact ⟨rfl, hbr.out⟩
end Go.Proofs.YtmapmeacjpoaoaaDoor
