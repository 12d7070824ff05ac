/- What the model's Do does. -/
import Derived.Test.YtmapmeacjpoaoaaDoorPm19
namespace Go.Proofs.YtmapmeacjpoaoaaDoor
open Go Go.RowKit

namespace M
/-- What is done by a session that is there. -/
noncomputable def rest (us : List Nat) (gs : List Gr) (m : St) (o : Opr) : Res × St :=
  if o.kind = 9 ∨ o.kind = 10 then (read us m o, m)
  else if o.kind = 11 ∨ o.kind = 12 then snap m o
  else if o.kind = 13 ∨ o.kind = 14 then (look us m o, m)
  else if o.kind = 15 then declassify us gs m o
  else if o.kind = 5 ∨ o.kind = 6 ∨ o.kind = 7 ∨ o.kind = 8 then write m o
  else txn m o
theorem do_bad {us : List Nat} {gs : List Gr} {m : St} {o : Opr} (h : check us.length o = false) : do_ us gs m o = (bad 40, m) := by
  unfold do_
  rw [if_pos (by simp [h])]
theorem do_open {us : List Nat} {gs : List Gr} {m : St} {o : Opr} (h : check us.length o = true) (h0 : o.kind = 0) : do_ us gs m o = (⟨0, openN m.ses o.level, [], []⟩, { m with ses := openS m.ses o.level }) := by
  unfold do_
  rw [if_neg (by simp [h]), if_pos h0]
theorem do_crash {us : List Nat} {gs : List Gr} {m : St} {o : Opr} (h : check us.length o = true) (h0 : o.kind = 16) : do_ us gs m o = crash m o := by
  unfold do_
  rw [if_neg (by simp [h]), if_neg (by omega), if_pos h0]
theorem do_none {us : List Nat} {gs : List Gr} {m : St} {o : Opr} (h : check us.length o = true) (h0 : o.kind ≠ 0) (h16 : o.kind ≠ 16) (hf : sfind m.ses o.level o.ses < 0) : do_ us gs m o = (bad 30, m) := by
  unfold do_
  rw [if_neg (by simp [h]), if_neg h0, if_neg h16, if_pos hf]
theorem do_rest {us : List Nat} {gs : List Gr} {m : St} {o : Opr} (h : check us.length o = true) (h0 : o.kind ≠ 0) (h16 : o.kind ≠ 16) (hf : ¬ sfind m.ses o.level o.ses < 0) : do_ us gs m o = rest us gs m o := by
  unfold do_ rest
  rw [if_neg (by simp [h]), if_neg h0, if_neg h16, if_neg hf]
theorem check_lv {n : Nat} {o : Opr} (h : check n o = true) (h16 : o.kind ≠ 16) : 0 ≤ o.level ∧ o.level < n := by
  unfold check at h
  simp [h16] at h
  omega
theorem write_nil (m : St) (o : Opr) : (write m o).1.rows = [] ∧ (write m o).1.recs = [] := by
  unfold write
  split <;> exact ⟨rfl, rfl⟩
theorem txn_nil (m : St) (o : Opr) : (txn m o).1.rows = [] ∧ (txn m o).1.recs = [] := by
  unfold txn
  simp only []
  split
  · split <;> exact ⟨rfl, rfl⟩
  · split <;> exact ⟨rfl, rfl⟩
theorem snap_nil (m : St) (o : Opr) : (snap m o).1.rows = [] ∧ (snap m o).1.recs = [] := by
  unfold snap
  split
  · simp only []
    split <;> exact ⟨rfl, rfl⟩
  · exact ⟨rfl, rfl⟩
theorem crash_nil (m : St) (o : Opr) : (crash m o).1.rows = [] ∧ (crash m o).1.recs = [] := ⟨rfl, rfl⟩
theorem decl_nil (us : List Nat) (gs : List Gr) (m : St) (o : Opr) : (declassify us gs m o).1.rows = [] ∧ (declassify us gs m o).1.recs = [] := by
  unfold declassify
  split <;> exact ⟨rfl, rfl⟩
theorem look_nil (us : List Nat) (m : St) (o : Opr) : (look us m o).rows = [] := by
  unfold look
  split
  · rfl
  · split <;> rfl
theorem getD_all {α : Type} {P : List α → Prop} {l : List (List α)} (h : ∀ x ∈ l, P x) (h0 : P []) (i : Nat) : P (l.getD i []) := by
  rw [List.getD_eq_getElem?_getD]
  rcases Nat.lt_or_ge i l.length with hi | hi
  · rw [List.getElem?_eq_getElem hi, Option.getD_some]
    exact h _ (List.getElem_mem _)
  · rw [List.getElem?_eq_none hi, Option.getD_none]
    exact h0
theorem Few.getL {n k : Nat} {m : St} (h : Few n k m) (i : Nat) : (m.L.getD i []).length ≤ k ∧ ∀ e ∈ m.L.getD i [], e.2.2.length ≤ 400 := getD_all (P := fun l : List En => l.length ≤ k ∧ ∀ e ∈ l, e.2.2.length ≤ 400) h.kL ⟨Nat.zero_le _, fun e he => by simp at he⟩ i
theorem Few.getD {n k : Nat} {m : St} (h : Few n k m) (i : Nat) : (m.dr.getD i []).length ≤ k := getD_all (P := fun l => l.length ≤ k) (fun l hl => (h.kdr l hl).1) (Nat.zero_le _) i
theorem Few.getA {n k : Nat} {m : St} (h : Few n k m) (i : Nat) : (m.au.getD i []).length ≤ k := getD_all (P := fun l => l.length ≤ k) h.kau (Nat.zero_le _) i
theorem sees_len {n k : Nat} {m : St} (h : Few n k m) (o : Opr) (x : Nat) : (sees m o x).length ≤ k := by
  have h1 : (seesOwn m o x).length ≤ k := by
    unfold seesOwn
    split
    · exact h.getD x
    · exact (h.getL x).1
  unfold sees
  split
  · split
    · rename_i p hp
      exact getD_all (P := fun l => l.length ≤ k) (fun l hl => ((h.psn p (List.mem_of_find?_eq_some hp)).2 l hl).1) (Nat.zero_le _) x
    · exact h1
  · exact h1
end M
/-- What an operation leaves, and tells. -/
def DoPost (G : Nat → Prop) (w : World) (B n : Nat) (vn vu vq vg : Value) (X : Mv) (r : Res) (m' : St) (e : Ending) (w' : World) : Prop :=
  ∃ X' vr vc, e = .returned (resv r.e r.n vr vc) ∧ Left G w w' B n vn vu vq vg X X' m' ∧ Fz (fun k => G k ∨ X'.foot B k) w' (fun W => Rs W vr r.rows) ∧ Fz (fun k => G k ∨ X'.foot B k) w' (fun W => Rv W vc r.recs)
theorem mut_do {G : Nat → Prop} {w w' : World} {B n : Nat} {vn vu vq vg : Value} {X : Mv} {r : Res} {m' : St} {e : Ending} (h : MutPost G w B n vn vu vq vg X r m' e w') (h1 : r.rows = []) (h2 : r.recs = []) : DoPost G w B n vn vu vq vg X r m' e w' := by
  obtain ⟨X', h3, h4⟩ := h
  exact ⟨X', _, _, h3, h4, fun W _ => by rw [h1]; exact Three.Ss.nil _, fun W _ => by rw [h2]; exact Rv.nil _⟩
theorem Mem.foot_eq {G : Nat → Prop} {w : World} {B n : Nat} {vn vu vq vg : Value} {X : Mv} {m : St} (h : Mem G w B n vn vu vq vg X m) : (fun k => G k ∨ X.foot B k) = G := by
  funext k
  exact propext ⟨fun h2 => h2.elim id (h.g k), .inl⟩
theorem read_do {G : Nat → Prop} {w w' : World} {B n : Nat} {vn vu vq vg : Value} {X : Mv} {m : St} {r : Res} {e : Ending} (hm : Mem G w B n vn vu vq vg X m) (h : ∃ vr, e = .returned (resv r.e r.n vr (.slice none 0 0)) ∧ Rz w w' vr r.rows ∧ Below w.heap.size w w') (hc : r.recs = []) : DoPost G w B n vn vu vq vg X r m e w' := by
  obtain ⟨vr, h1, h2, h3⟩ := h
  exact ⟨X, vr, _, h1, Left.same (hm.below h3) (Ex.of_below h3) fun _ h => h, by rw [hm.foot_eq]; exact h2 G hm.lt, fun W _ => by rw [hc]; exact Rv.nil _⟩
theorem look_do {G : Nat → Prop} {w w' : World} {B n : Nat} {vn vu vq vg : Value} {X : Mv} {m : St} {r : Res} {e : Ending} (hm : Mem G w B n vn vu vq vg X m) (hr : r.rows = []) (h : LookPost G w r e w') : DoPost G w B n vn vu vq vg X r m e w' := by
  obtain ⟨vc, h1, h2, h3⟩ := h
  exact ⟨X, _, vc, h1, Left.same (hm.below h3) (Ex.of_below h3) fun _ h => h, fun W _ => by rw [hr]; exact Three.Ss.nil _, by rw [hm.foot_eq]; exact h2⟩
theorem M.read_recs (us : List Nat) (m : St) (o : Opr) : (M.read us m o).recs = [] := by
  unfold M.read
  repeat (first | rfl | split)
theorem Left.wrap {G : Nat → Prop} {w w2 wi wj : World} {B n R : Nat} {vn vu vq vg : Value} {X X' : Mv} {m' : St} (h : Left (fun k => G k ∨ k = R) wi wj B n vn vu vq vg X X' m') (hw : ∀ k, G k → k < w.heap.size) (hXG : ∀ k, X.foot B k → G k) (hb : Below w.heap.size w w2) (hx : Ex (X.foot B) w2 wi) (hR : w.heap.size < R) (hR2 : R < w2.heap.size) (e n1 : Int) (vr vc : Value) :
    Left G w (rbw wj R e n1 vr vc) B n vn vu vq vg X X' m' := by
  have hs1 := hb.size
  have hs2 := hx.size
  refine Left.res hw hXG (h.mem.narrow ?_ ?_) ((Ex.of_below hb).trans (hx.trans h.ex)) (Nat.le_of_lt hR) ?_ e n1 vr vc
  · rintro k ((hk | hk) | hk)
    · exact .inl (.inl hk)
    · exact .inr hk
    · exact .inl (.inr hk)
  · exact fun k hk => .inl (.inr hk)
  · intro k hk
    rcases h.foot k hk with h1 | h1
    · exact .inl h1
    · exact .inr ⟨by omega, by omega⟩
theorem do_wrap {G : Nat → Prop} {w wj : World} {B n R : Nat} {vn vu vq vg : Value} {X X' : Mv} {f r : Res × St} {re rm : Int} {vr vc : Value} (hf : f = r) (he : r.1.e = re) (hn : r.1.n = rm) (hl : Left G w (rbw wj R re rm vr vc) B n vn vu vq vg X X' r.2)
    (hr : Fz (fun k => (G k ∨ k = R) ∨ X'.foot B k) wj (fun W => Rs W vr r.1.rows)) (hc : Fz (fun k => (G k ∨ k = R) ∨ X'.foot B k) wj (fun W => Rv W vc r.1.recs)) : DoPost G w B n vn vu vq vg X f.1 f.2 (.returned (resv re rm vr vc)) (rbw wj R re rm vr vc) := by
  have hx := ex_rbwR wj R re rm vr vc
  refine ⟨X', vr, vc, by rw [hf, he, hn], by rw [hf]; exact hl, ?_, ?_⟩
  · rw [hf]
    generalize rbw wj R re rm vr vc = wn at *
    exact fun W hW => hr W ((hx.mono fun k _ h => .inl (.inr h)).trans (hW.mono fun k _ h => h.elim (fun h => .inl (.inl h)) .inr))
  · rw [hf]
    generalize rbw wj R re rm vr vc = wn at *
    exact fun W hW => hc W ((hx.mono fun k _ h => .inl (.inr h)).trans (hW.mono fun k _ h => h.elim (fun h => .inl (.inl h)) .inr))

set_option maxRecDepth 4000 in
set_option maxHeartbeats 4000000 in
theorem do_any (G : Nat → Prop) (w : World) (B n : Nat) (vn vu vq vg : Value) (X : Mv) (m : St) (o : Opr) (u : Value) (h : Mem G w B n vn vu vq vg X m) (us : List Nat) (gs : List Gr) (hU : Us w vu us) (hU64 : U64s us) (hnu : us.length = n) (hG : Gs w vg gs) (hn : n < 60) (hF : M.Few n 900 m) :
    Calls Tryd.prog 9 #[.pointer (some ⟨B, 0, none⟩), opv (o.put u), .bool false] w (DoPost G w B n vn vu vq vg X (M.do_ us gs m o).1 (M.do_ us gs m o).2) := by
  have hE := (Ent.box h.mr o u).alloc ((Below.refl _ _).alloc (Nat.le_refl _) (.cells #[.int .i64 0, .int .i64 0, (.slice none 0 0), .int .i64 0, .int .i64 0, .int .i64 0, .int .i64 0, (.slice none 0 0)] 45))
  have hR : Rb ((w.alloc (.cells (opc o u) 33)).alloc (.cells #[.int .i64 0, .int .i64 0, (.slice none 0 0), .int .i64 0, .int .i64 0, .int .i64 0, .int .i64 0, (.slice none 0 0)] 45)) (w.alloc (.cells (opc o u) 33)).heap.size 0 0 (.slice none 0 0) (.slice none 0 0) := heap_alloc_new _ _
  have hR2 : w.heap.size < (w.alloc (.cells (opc o u) 33)).heap.size := by simp
  have hR3 : (w.alloc (.cells (opc o u) 33)).heap.size < ((w.alloc (.cells (opc o u) 33)).alloc (.cells #[.int .i64 0, .int .i64 0, (.slice none 0 0), .int .i64 0, .int .i64 0, .int .i64 0, .int .i64 0, (.slice none 0 0)] 45)).heap.size := by simp
  obtain ⟨w2, hw2⟩ : ∃ w2, (w.alloc (.cells (opc o u) 33)).alloc (.cells #[.int .i64 0, .int .i64 0, (.slice none 0 0), .int .i64 0, .int .i64 0, .int .i64 0, .int .i64 0, (.slice none 0 0)] 45) = w2 := ⟨_, rfl⟩
  obtain ⟨R, hRR⟩ : ∃ R, (w.alloc (.cells (opc o u) 33)).heap.size = R := ⟨_, rfl⟩
  have hRQ : w.heap.size + 1 = R := by rw [← hRR]; simp
  obtain ⟨Qo, hQo⟩ : ∃ Qo, w.heap.size = Qo := ⟨_, rfl⟩
  rw [hw2] at hE hR hR3
  rw [hRR] at hR hR2 hR3
  have HE := Lib.hid hE
  have HR2 := Lib.hid hR2
  have HM := Lib.hid (h.wide hE.b (Nat.le_of_lt hR2) hR3)
  have HX : Hid (Ex (X.foot B) w2 w2) := Ex.refl _ _
  have HLT := Lib.hid h.lt
  have HXG := Lib.hid h.g
  have HNE := Lib.hid h.ne
  have HQF : Hid (¬ X.foot B Qo) := fun hf => by
    have := h.lt Qo (h.g Qo hf)
    omega
  have HRb : Hid (∀ W, Ex (X.foot B) w2 W → Rb W R 0 0 (.slice none 0 0) (.slice none 0 0)) := fun W hW => hR.ex hW fun hf => by
    have := h.lt R (h.g R hf)
    omega
  obtain ⟨o0, o1, o2, o3, o4, o5, o6, o7, o8, o9, kk⟩ := o
  have HOP := Lib.hid (fun W (hW : Ex (X.foot B) w2 W) => hE.atx hW (by rw [hQo]; exact HQF.out))
  simp only [] at HOP
  rw [hQo] at HOP
  have HN : Hid (n < 60) := hn
  have HNN := Lib.hid hnu
  have HFW := Lib.hid hF
  have HSL : Hid (m.ses.length ≤ 1000) := Nat.le_trans hF.kses (by decide)
  have HS1 : Hid (∀ s ∈ m.ses, s.snaps.length ≤ 1000 ∧ 0 ≤ s.last ∧ s.last ≤ 1000) := fun s hs => by
    have := hF.one s hs
    omega
  have HSN : Hid (m.sn.length ≤ 1000) := Nat.le_trans hF.ksn (by decide)
  have HPN : Hid (∀ p ∈ m.sn, p.l.length = n) := fun p hp => (hF.psn p hp).1
  have HUs := Lib.hid (fun W (hW : Below w2.heap.size w2 W) => hU.below (below_next hE.b hW))
  have HGs := Lib.hid (fun W (hW : Below w2.heap.size w2 W) => Three.Ss.below hG (below_next hE.b hW))
  have HU64 := Lib.hid hU64
  have HR3 := Lib.hid hR3
  have HXW : Hid (Below w2.heap.size w2 w2) := Below.refl _ _
  have HCC : Hid (∀ W, Calls Tryd.prog 6 #[.int .i64 n, opv ((⟨o0, o1, o2, o3, o4, o5, o6, o7, o8, o9, kk⟩ : Opr).put u)] W fun e w' => e = .returned (.bool (M.check n ⟨o0, o1, o2, o3, o4, o5, o6, o7, o8, o9, kk⟩)) ∧ Below W.heap.size W w') := fun W => chk_any n ⟨o0, o1, o2, o3, o4, o5, o6, o7, o8, o9, kk⟩ u W
  obtain ⟨ck, hck⟩ : ∃ b, M.check n ⟨o0, o1, o2, o3, o4, o5, o6, o7, o8, o9, kk⟩ = b := ⟨_, rfl⟩
  have HCK : Hid (M.check us.length ⟨o0, o1, o2, o3, o4, o5, o6, o7, o8, o9, kk⟩ = ck) := by
    unfold Hid
    rw [hnu]
    exact hck
  rw [hck] at HCC
  obtain ⟨f, hf⟩ : ∃ k, M.sfind m.ses o1 o2 = k := ⟨_, rfl⟩
  have HSF := Lib.hid hf
  clear hck hf hnu hF hU hG hU64 hn
  simp only [Op11.put, opc] at hw2 ⊢
  rw [hQo] at hRQ HE
  clear h hE hR hR2 hR3 hRR
  go_enter Tryd.func9, Tryd.ntmps9
  go_wp2_with fail
  clear hw2 hQo hRQ
  cases ck with
  | false =>
    refine wp_region_mix ext_grow [(0, false), (1, false), (2, false), (3, false), (4, false), (5, false), (6, false), (7, false)] (by kernel_rfl) (by kernel_rfl) ?_
    have HMq := Lib.hid (HM.out.below (Below.drew (Below.refl _ _)))
    have HXq : Hid (Ex (X.foot B) w2 w2.drew) := HX.out.trans (Ex.of_below (Below.drew (Below.refl _ _)))
    have HXWq : Hid (Below w2.heap.size w2 w2.drew) := below_next HXW.out (Below.drew (Below.refl _ _))
    clear HM HX HXW
    generalize w2.drew = wd at *
    have HM := HMq
    have HX := HXq
    have HXW := HXWq
    clear HMq HXq HXWq
    have c4 : ∀ z : Later wd, z.1.cell? ⟨B, 4, none⟩ = some (slv X.bL n) := fun z => (HM.out.b.below z.2).cells.c4
    have p0 : ∀ z : Later wd, z.1.cell? ⟨Qo, 0, none⟩ = some (.int .i64 o0) := fun z => (HOP.out z.1 (HX.out.trans (Ex.of_below z.2))).1
    have p1 : ∀ z : Later wd, z.1.cell? ⟨Qo, 1, none⟩ = some (.int .i64 o1) := fun z => (HOP.out z.1 (HX.out.trans (Ex.of_below z.2))).2.1
    have p2 : ∀ z : Later wd, z.1.cell? ⟨Qo, 2, none⟩ = some (.int .i64 o2) := fun z => (HOP.out z.1 (HX.out.trans (Ex.of_below z.2))).2.2.1
    have p3 : ∀ z : Later wd, z.1.cell? ⟨Qo, 3, none⟩ = some (.int .i64 o3) := fun z => (HOP.out z.1 (HX.out.trans (Ex.of_below z.2))).2.2.2.1
    have p4 : ∀ z : Later wd, z.1.cell? ⟨Qo, 4, none⟩ = some (.string (str o4)) := fun z => (HOP.out z.1 (HX.out.trans (Ex.of_below z.2))).2.2.2.2.1
    have p5 : ∀ z : Later wd, z.1.cell? ⟨Qo, 5, none⟩ = some (.string (str o5)) := fun z => (HOP.out z.1 (HX.out.trans (Ex.of_below z.2))).2.2.2.2.2.1
    have p6 : ∀ z : Later wd, z.1.cell? ⟨Qo, 6, none⟩ = some (.string (str o6)) := fun z => (HOP.out z.1 (HX.out.trans (Ex.of_below z.2))).2.2.2.2.2.2.1
    have p7 : ∀ z : Later wd, z.1.cell? ⟨Qo, 7, none⟩ = some (.int .i64 o7) := fun z => (HOP.out z.1 (HX.out.trans (Ex.of_below z.2))).2.2.2.2.2.2.2.1
    have p8 : ∀ z : Later wd, z.1.cell? ⟨Qo, 8, none⟩ = some (.int .i64 o8) := fun z => (HOP.out z.1 (HX.out.trans (Ex.of_below z.2))).2.2.2.2.2.2.2.2.1
    have p9 : ∀ z : Later wd, z.1.cell? ⟨Qo, 9, none⟩ = some (.int .i64 o9) := fun z => (HOP.out z.1 (HX.out.trans (Ex.of_below z.2))).2.2.2.2.2.2.2.2.2.1
    have p10 : ∀ z : Later wd, z.1.cell? ⟨Qo, 10, none⟩ = some u := fun z => (HOP.out z.1 (HX.out.trans (Ex.of_below z.2))).2.2.2.2.2.2.2.2.2.2
    have HCy : Hid (∀ z : Later wd, Calls Tryd.prog 6 #[.int .i64 n, opv ((⟨o0, o1, o2, o3, o4, o5, o6, o7, o8, o9, kk⟩ : Opr).put u)] z.1 fun e w' => e = .returned (.bool false) ∧ Ext z.1 w') := fun z => HCC.out z.1
    repeat (refine mix_soft rfl (fun K hK => ?_); go_simp; (first | (refine hK _ ?_; clear hK K) | (apply Exists.intro; refine ⟨fun z => ?_, hK _ ?_⟩; (first | (go_at_call 6; exact HCy.out z)); clear hK K)))
    refine mix_done fun w3 hx => ?_
    have HMq := Lib.hid (HM.out.below hx)
    have HXq : Hid (Ex (X.foot B) w2 w3) := HX.out.trans (Ex.of_below hx)
    have HXWq := Lib.hid (below_next HXW.out hx)
    clear HM HX HXW hx
    have HM := HMq
    have HX := HXq
    have HXW := HXWq
    clear HMq HXq HXWq
    clear c4 HCy p0 p1 p2 p3 p4 p5 p6 p7 p8 p9 p10 HCC
    have HRES : Hid (M.do_ us gs m ⟨o0, o1, o2, o3, o4, o5, o6, o7, o8, o9, kk⟩ = (M.bad 40, m)) := M.do_bad HCK.out
    have st := Lib.hid (not_any 40 w3)
    go_wp2_with fail
    refine st.out.mono ?_
    rintro e wn ⟨rfl, hx⟩
    have HMn := Lib.hid (HM.out.below hx)
    have HXn : Hid (Ex (X.foot B) w2 wn) := HX.out.trans (Ex.of_below hx)
    clear st hx HM HX
    have hrb := HRb.out wn HXn.out
    obtain ⟨⟨v0, z0⟩, ⟨v1, z1⟩, ⟨v2, z2⟩, ⟨v3, z3⟩, ⟨v4, z4⟩, ⟨v5, z5⟩, ⟨v6, z6⟩, ⟨v7, z7⟩⟩ := hrb.olds
    have y0 := hrb.go 0
    have y1 := hrb.go 1
    have y2 := hrb.go 2
    have y3 := hrb.go 3
    have y4 := hrb.go 4
    have y5 := hrb.go 5
    have y6 := hrb.go 6
    have y7 := hrb.go 7
    clear hrb
    go_wp2_with fail
    refine bodyPost_ret (res_results rfl _ _ R 40 0 (.slice none 0 0) (.slice none 0 0) rfl ((HRb.out wn HXn.out).put 40 0 (.slice none 0 0) (.slice none 0 0))) rfl ?_
    have HF1 : Ending.returned (resv 40 0 (.slice none 0 0) (.slice none 0 0)) = Ending.returned (resv (M.do_ us gs m ⟨o0, o1, o2, o3, o4, o5, o6, o7, o8, o9, kk⟩).1.e (M.do_ us gs m ⟨o0, o1, o2, o3, o4, o5, o6, o7, o8, o9, kk⟩).1.n (.slice none 0 0) (.slice none 0 0)) := by rw [HRES.out] <;> rfl
    have HF2 : Left G w (rbw wn R 40 0 (.slice none 0 0) (.slice none 0 0)) B n vn vu vq vg X X (M.do_ us gs m ⟨o0, o1, o2, o3, o4, o5, o6, o7, o8, o9, kk⟩).2 := by
      rw [HRES.out]
      exact Left.res1 HLT.out HXG.out HMn.out (Ex.trans (Ex.of_below HE.out.b) HXn.out) (Nat.le_of_lt HR2.out) rfl 40 0 (.slice none 0 0) (.slice none 0 0)
    exact mut_do ⟨_, HF1, HF2⟩ (by rw [HRES.out] <;> rfl) (by rw [HRES.out] <;> rfl)
  | true =>
    refine wp_region_mix ext_grow [(0, false), (1, false), (2, false), (3, false), (4, false), (5, false), (6, false), (7, false)] (by kernel_rfl) (by kernel_rfl) ?_
    have HMq := Lib.hid (HM.out.below (Below.drew (Below.refl _ _)))
    have HXq : Hid (Ex (X.foot B) w2 w2.drew) := HX.out.trans (Ex.of_below (Below.drew (Below.refl _ _)))
    have HXWq : Hid (Below w2.heap.size w2 w2.drew) := below_next HXW.out (Below.drew (Below.refl _ _))
    clear HM HX HXW
    generalize w2.drew = wd at *
    have HM := HMq
    have HX := HXq
    have HXW := HXWq
    clear HMq HXq HXWq
    have c4 : ∀ z : Later wd, z.1.cell? ⟨B, 4, none⟩ = some (slv X.bL n) := fun z => (HM.out.b.below z.2).cells.c4
    have p0 : ∀ z : Later wd, z.1.cell? ⟨Qo, 0, none⟩ = some (.int .i64 o0) := fun z => (HOP.out z.1 (HX.out.trans (Ex.of_below z.2))).1
    have p1 : ∀ z : Later wd, z.1.cell? ⟨Qo, 1, none⟩ = some (.int .i64 o1) := fun z => (HOP.out z.1 (HX.out.trans (Ex.of_below z.2))).2.1
    have p2 : ∀ z : Later wd, z.1.cell? ⟨Qo, 2, none⟩ = some (.int .i64 o2) := fun z => (HOP.out z.1 (HX.out.trans (Ex.of_below z.2))).2.2.1
    have p3 : ∀ z : Later wd, z.1.cell? ⟨Qo, 3, none⟩ = some (.int .i64 o3) := fun z => (HOP.out z.1 (HX.out.trans (Ex.of_below z.2))).2.2.2.1
    have p4 : ∀ z : Later wd, z.1.cell? ⟨Qo, 4, none⟩ = some (.string (str o4)) := fun z => (HOP.out z.1 (HX.out.trans (Ex.of_below z.2))).2.2.2.2.1
    have p5 : ∀ z : Later wd, z.1.cell? ⟨Qo, 5, none⟩ = some (.string (str o5)) := fun z => (HOP.out z.1 (HX.out.trans (Ex.of_below z.2))).2.2.2.2.2.1
    have p6 : ∀ z : Later wd, z.1.cell? ⟨Qo, 6, none⟩ = some (.string (str o6)) := fun z => (HOP.out z.1 (HX.out.trans (Ex.of_below z.2))).2.2.2.2.2.2.1
    have p7 : ∀ z : Later wd, z.1.cell? ⟨Qo, 7, none⟩ = some (.int .i64 o7) := fun z => (HOP.out z.1 (HX.out.trans (Ex.of_below z.2))).2.2.2.2.2.2.2.1
    have p8 : ∀ z : Later wd, z.1.cell? ⟨Qo, 8, none⟩ = some (.int .i64 o8) := fun z => (HOP.out z.1 (HX.out.trans (Ex.of_below z.2))).2.2.2.2.2.2.2.2.1
    have p9 : ∀ z : Later wd, z.1.cell? ⟨Qo, 9, none⟩ = some (.int .i64 o9) := fun z => (HOP.out z.1 (HX.out.trans (Ex.of_below z.2))).2.2.2.2.2.2.2.2.2.1
    have p10 : ∀ z : Later wd, z.1.cell? ⟨Qo, 10, none⟩ = some u := fun z => (HOP.out z.1 (HX.out.trans (Ex.of_below z.2))).2.2.2.2.2.2.2.2.2.2
    have HCy : Hid (∀ z : Later wd, Calls Tryd.prog 6 #[.int .i64 n, opv ((⟨o0, o1, o2, o3, o4, o5, o6, o7, o8, o9, kk⟩ : Opr).put u)] z.1 fun e w' => e = .returned (.bool true) ∧ Ext z.1 w') := fun z => HCC.out z.1
    repeat (refine mix_soft rfl (fun K hK => ?_); go_simp; (first | (refine hK _ ?_; clear hK K) | (apply Exists.intro; refine ⟨fun z => ?_, hK _ ?_⟩; (first | (go_at_call 6; exact HCy.out z)); clear hK K)))
    refine mix_done fun w3 hx => ?_
    have HMq := Lib.hid (HM.out.below hx)
    have HXq : Hid (Ex (X.foot B) w2 w3) := HX.out.trans (Ex.of_below hx)
    have HXWq := Lib.hid (below_next HXW.out hx)
    clear HM HX HXW hx
    have HM := HMq
    have HX := HXq
    have HXW := HXWq
    clear HMq HXq HXWq
    clear c4 HCy p0 p1 p2 p3 p4 p5 p6 p7 p8 p9 p10 HCC
    by_cases hk0 : o0 = 0
    · subst hk0
      have dk9 : decide ((0 : Int) = 9) = false := by decide
      have ek9 : ((0 : Int) == 9) = false := by decide
      have dk10 : decide ((0 : Int) = 10) = false := by decide
      have ek10 : ((0 : Int) == 10) = false := by decide
      have dk11 : decide ((0 : Int) = 11) = false := by decide
      have ek11 : ((0 : Int) == 11) = false := by decide
      have dk12 : decide ((0 : Int) = 12) = false := by decide
      have ek12 : ((0 : Int) == 12) = false := by decide
      have dk13 : decide ((0 : Int) = 13) = false := by decide
      have ek13 : ((0 : Int) == 13) = false := by decide
      have dk14 : decide ((0 : Int) = 14) = false := by decide
      have ek14 : ((0 : Int) == 14) = false := by decide
      have dk15 : decide ((0 : Int) = 15) = false := by decide
      have ek15 : ((0 : Int) == 15) = false := by decide
      have dk5 : decide ((0 : Int) = 5) = false := by decide
      have ek5 : ((0 : Int) == 5) = false := by decide
      have dk6 : decide ((0 : Int) = 6) = false := by decide
      have ek6 : ((0 : Int) == 6) = false := by decide
      have dk7 : decide ((0 : Int) = 7) = false := by decide
      have ek7 : ((0 : Int) == 7) = false := by decide
      have dk8 : decide ((0 : Int) = 8) = false := by decide
      have ek8 : ((0 : Int) == 8) = false := by decide
      have dk0 : decide ((0 : Int) = 0) = true := by decide
      have ek0 : ((0 : Int) == 0) = true := by decide
      have dk16 : decide ((0 : Int) = 16) = false := by decide
      have ek16 : ((0 : Int) == 16) = false := by decide
      obtain ⟨p0, -⟩ := HOP.out w3 HX.out
      go_wp2_with fail
      clear p0
      refine wp_region_mix ext_grow [(0, false), (1, false), (2, false), (3, false), (4, false), (5, false), (6, true), (7, false), (8, false), (9, false), (10, false), (11, false)] (by kernel_rfl) (by kernel_rfl) ?_
      have HMq := Lib.hid (HM.out.below (Below.drew (Below.refl _ _)))
      have HXq : Hid (Ex (X.foot B) w2 w3.drew) := HX.out.trans (Ex.of_below (Below.drew (Below.refl _ _)))
      clear HM HX
      generalize w3.drew = wd at *
      have HM := HMq
      have HX := HXq
      clear HMq HXq
      have q8 : ∀ z : Later wd, z.1.cell? ⟨B, 8, none⟩ = some X.vs := fun z => (HM.out.b.below z.2).cells.c8
      have p1 : ∀ z : Later wd, z.1.cell? ⟨Qo, 1, none⟩ = some (.int .i64 o1) := fun z => (HOP.out z.1 (HX.out.trans (Ex.of_below z.2))).2.1
      repeat (refine mix_soft rfl (fun K hK => ?_); go_simp; (first | (refine hK _ ?_; clear hK K) | (apply Exists.intro; refine ⟨fun z => ?_, hK _ ?_⟩; (first | done); clear hK K)))
      clear q8 p1
      refine mix_loud rfl (fun K hK => ?_)
      go_simp
      intro z
      have HMz := Lib.hid (HM.out.below z.2)
      refine (sopen_any (fun k => G k ∨ k = R) X.vs X.us m.ses o1 z.1 (fun W hW => (HMz.out.f W hW).S) HMz.out.lt HSL.out).mono ?_
      rintro e w4 ⟨v4, us4, rfl, hfs, hb4⟩
      refine ⟨_, rfl, hb4, hK _ _ ?_⟩
      have HFS := Lib.hid hfs
      have HMq := Lib.hid (HMz.out.below hb4)
      have HXq : Hid (Ex (X.foot B) w2 w4) := HX.out.trans (Ex.of_below (below_next z.2 hb4))
      clear hK K hfs hb4 HMz HM HX
      generalize z.1 = wz at *
      clear z
      have HM := HMq
      have HX := HXq
      clear HMq HXq
      obtain ⟨va, vn', vc, rfl⟩ : ∃ a n c, v4 = .slice a n c := by
        obtain ⟨a, c, e, -⟩ := HFS.out.here.sl.shape
        exact ⟨a, _, c, e⟩
      repeat (refine mix_soft rfl (fun K hK => ?_); go_simp; (first | (refine hK _ ?_; clear hK K) | (apply Exists.intro; refine ⟨fun z => ?_, hK _ ?_⟩; (first | done); clear hK K)))
      refine mix_done fun w5 hx5 => ?_
      have HFq := Lib.hid (HFS.out.below hx5)
      have HMq := Lib.hid (HM.out.below hx5)
      have HXq : Hid (Ex (X.foot B) w2 w5) := HX.out.trans (Ex.of_below hx5)
      clear HFS HM HX hx5
      have c8 := HMq.out.b.cells.c8
      have f8 := HMq.out.b.free 8
      have HM := Lib.hid (HMq.out.setS (.slice va vn' vc) us4 (M.openS m.ses o1) HFq.out)
      have HX : Hid (Ex (X.foot B) w2 (w5.setCell ⟨B, 8, none⟩ (.slice va vn' vc))) := HXq.out.trans (Ex.setCell w5 B 8 (by unfold Mv.foot; simp) _)
      clear HMq HXq HFq
      obtain ⟨N, hN⟩ : ∃ k, M.openN m.ses o1 = k := ⟨_, rfl⟩
      have HRES : Hid (M.do_ us gs m ⟨0, o1, o2, o3, o4, o5, o6, o7, o8, o9, kk⟩ = (⟨0, N, [], []⟩, { m with ses := (M.openS m.ses o1) })) := by
        unfold Hid
        rw [M.do_open HCK.out rfl, ← hN]
      rw [hN]
      clear hN
      have hrb := HRb.out (w5.setCell ⟨B, 8, none⟩ (.slice va vn' vc)) HX.out
      obtain ⟨⟨v0, z0⟩, ⟨v1, z1⟩, ⟨v2, z2⟩, ⟨v3, z3⟩, ⟨v4, z4⟩, ⟨v5, z5⟩, ⟨v6, z6⟩, ⟨v7, z7⟩⟩ := hrb.olds
      have y0 := hrb.go 0
      have y1 := hrb.go 1
      have y2 := hrb.go 2
      have y3 := hrb.go 3
      have y4 := hrb.go 4
      have y5 := hrb.go 5
      have y6 := hrb.go 6
      have y7 := hrb.go 7
      clear hrb
      go_wp2_with fail
      refine bodyPost_ret (res_results rfl _ _ R 0 N (.slice none 0 0) (.slice none 0 0) rfl ((HRb.out (w5.setCell ⟨B, 8, none⟩ (.slice va vn' vc)) HX.out).put 0 N (.slice none 0 0) (.slice none 0 0))) rfl ?_
      have HF1 : Ending.returned (resv 0 N (.slice none 0 0) (.slice none 0 0)) = Ending.returned (resv (M.do_ us gs m ⟨0, o1, o2, o3, o4, o5, o6, o7, o8, o9, kk⟩).1.e (M.do_ us gs m ⟨0, o1, o2, o3, o4, o5, o6, o7, o8, o9, kk⟩).1.n (.slice none 0 0) (.slice none 0 0)) := by rw [HRES.out] <;> rfl
      have HF2 : Left G w (rbw (w5.setCell ⟨B, 8, none⟩ (.slice va vn' vc)) R 0 N (.slice none 0 0) (.slice none 0 0)) B n vn vu vq vg X { X with vs := .slice va vn' vc, us := us4 } (M.do_ us gs m ⟨0, o1, o2, o3, o4, o5, o6, o7, o8, o9, kk⟩).2 := by
        rw [HRES.out]
        exact Left.res1 HLT.out HXG.out HM.out (Ex.trans (Ex.of_below HE.out.b) HX.out) (Nat.le_of_lt HR2.out) rfl 0 N (.slice none 0 0) (.slice none 0 0)
      exact mut_do ⟨_, HF1, HF2⟩ (by rw [HRES.out] <;> rfl) (by rw [HRES.out] <;> rfl)
    · have dk0 : decide (o0 = 0) = false := by simp [hk0]
      have ek0 : (o0 == 0) = false := by simp [hk0]
      by_cases hk16 : o0 = 16
      · subst hk16
        have dk9 : decide ((16 : Int) = 9) = false := by decide
        have ek9 : ((16 : Int) == 9) = false := by decide
        have dk10 : decide ((16 : Int) = 10) = false := by decide
        have ek10 : ((16 : Int) == 10) = false := by decide
        have dk11 : decide ((16 : Int) = 11) = false := by decide
        have ek11 : ((16 : Int) == 11) = false := by decide
        have dk12 : decide ((16 : Int) = 12) = false := by decide
        have ek12 : ((16 : Int) == 12) = false := by decide
        have dk13 : decide ((16 : Int) = 13) = false := by decide
        have ek13 : ((16 : Int) == 13) = false := by decide
        have dk14 : decide ((16 : Int) = 14) = false := by decide
        have ek14 : ((16 : Int) == 14) = false := by decide
        have dk15 : decide ((16 : Int) = 15) = false := by decide
        have ek15 : ((16 : Int) == 15) = false := by decide
        have dk5 : decide ((16 : Int) = 5) = false := by decide
        have ek5 : ((16 : Int) == 5) = false := by decide
        have dk6 : decide ((16 : Int) = 6) = false := by decide
        have ek6 : ((16 : Int) == 6) = false := by decide
        have dk7 : decide ((16 : Int) = 7) = false := by decide
        have ek7 : ((16 : Int) == 7) = false := by decide
        have dk8 : decide ((16 : Int) = 8) = false := by decide
        have ek8 : ((16 : Int) == 8) = false := by decide
        have dk0 : decide ((16 : Int) = 0) = false := by decide
        have ek0 : ((16 : Int) == 0) = false := by decide
        have dk16 : decide ((16 : Int) = 16) = true := by decide
        have ek16 : ((16 : Int) == 16) = true := by decide
        have HRES : Hid (M.do_ us gs m ⟨16, o1, o2, o3, o4, o5, o6, o7, o8, o9, kk⟩ = M.crash m ⟨16, o1, o2, o3, o4, o5, o6, o7, o8, o9, kk⟩) := M.do_crash HCK.out rfl
        obtain ⟨r, hr⟩ : ∃ r, M.crash m ⟨16, o1, o2, o3, o4, o5, o6, o7, o8, o9, kk⟩ = r := ⟨_, rfl⟩
        obtain ⟨p0, p1, p2, p3, p4, p5, p6, p7, p8, p9, p10⟩ := HOP.out w3 HX.out
        have HIN := Lib.hid ((crash_any (fun k => G k ∨ k = R) w3 B n vn vu vq vg X m ⟨16, o1, o2, o3, o4, o5, o6, o7, o8, o9, kk⟩ u HM.out (by have := HN.out; omega)).mono fun e w h => mut_do h (M.crash_nil _ _).1 (M.crash_nil _ _).2)
        rw [hr] at HIN HRES
        clear hr
        go_wp2_with fail
        refine HIN.out.mono ?_
        rintro e wj ⟨X', vr, vc, rfl, hL, hR, hC⟩
        obtain ⟨ra, rc, hvr, -⟩ := (hR.here).shape
        obtain ⟨ca, cc, hvc, -⟩ := Sl.shape hC.here
        have HXj : Hid (Ex (X.foot B) w2 wj) := HX.out.trans hL.ex
        have HL := Lib.hid (hL.wrap HLT.out HXG.out HE.out.b HX.out HR2.out HR3.out)
        have HRR := Lib.hid hR
        have HCC := Lib.hid hC
        clear HIN hL hR hC HM HX p0 p1 p2 p3 p4 p5 p6 p7 p8 p9 p10
        obtain ⟨rn, hrn⟩ : ∃ k, r.1.rows.length = k := ⟨_, rfl⟩
        obtain ⟨cn, hcn⟩ : ∃ k, r.1.recs.length = k := ⟨_, rfl⟩
        rw [hrn] at hvr
        rw [hcn] at hvc
        clear hrn hcn
        subst hvr hvc
        obtain ⟨re, hre⟩ : ∃ k, r.1.e = k := ⟨_, rfl⟩
        obtain ⟨rm, hrm⟩ : ∃ k, r.1.n = k := ⟨_, rfl⟩
        have HRE := Lib.hid hre
        have HRM := Lib.hid hrm
        rw [hre, hrm]
        clear hre hrm
        have hrb := HRb.out wj HXj.out
        obtain ⟨⟨v0, z0⟩, ⟨v1, z1⟩, ⟨v2, z2⟩, ⟨v3, z3⟩, ⟨v4, z4⟩, ⟨v5, z5⟩, ⟨v6, z6⟩, ⟨v7, z7⟩⟩ := hrb.olds
        have y0 := hrb.go 0
        have y1 := hrb.go 1
        have y2 := hrb.go 2
        have y3 := hrb.go 3
        have y4 := hrb.go 4
        have y5 := hrb.go 5
        have y6 := hrb.go 6
        have y7 := hrb.go 7
        clear hrb
        go_wp2_with fail
        refine bodyPost_ret (res_results rfl _ _ R re rm (.slice ra rn rc) (.slice ca cn cc) rfl ((HRb.out wj HXj.out).put re rm (.slice ra rn rc) (.slice ca cn cc))) rfl ?_
        refine do_wrap HRES.out HRE.out HRM.out (HL.out re rm (.slice ra rn rc) (.slice ca cn cc)) HRR.out HCC.out
      · have dk16 : decide (o0 = 16) = false := by simp [hk16]
        have ek16 : (o0 == 16) = false := by simp [hk16]
        obtain ⟨p0, p1, p2, -⟩ := HOP.out w3 HX.out
        go_wp2_with fail
        refine wp_region_mix ext_grow [(0, false), (1, false), (2, false), (3, false), (4, false), (5, false), (6, false), (7, false), (8, false), (9, false)] (by kernel_rfl) (by kernel_rfl) ?_
        clear p0 p1 p2
        have HMq := Lib.hid (HM.out.below (Below.drew (Below.refl _ _)))
        have HXq : Hid (Ex (X.foot B) w2 w3.drew) := HX.out.trans (Ex.of_below (Below.drew (Below.refl _ _)))
        have HXWq : Hid (Below w2.heap.size w2 w3.drew) := below_next HXW.out (Below.drew (Below.refl _ _))
        clear HM HX HXW
        generalize w3.drew = wd at *
        have HM := HMq
        have HX := HXq
        have HXW := HXWq
        clear HMq HXq HXWq
        have q8 : ∀ z : Later wd, z.1.cell? ⟨B, 8, none⟩ = some X.vs := fun z => (HM.out.b.below z.2).cells.c8
        have p1 : ∀ z : Later wd, z.1.cell? ⟨Qo, 1, none⟩ = some (.int .i64 o1) := fun z => (HOP.out z.1 (HX.out.trans (Ex.of_below z.2))).2.1
        have p2 : ∀ z : Later wd, z.1.cell? ⟨Qo, 2, none⟩ = some (.int .i64 o2) := fun z => (HOP.out z.1 (HX.out.trans (Ex.of_below z.2))).2.2.1
        have HFy : Hid (∀ z : Later wd, Calls Tryd.prog 24 #[X.vs, .int .i64 o1, .int .i64 o2] z.1 fun e w' => e = .returned (.int .i64 f) ∧ Ext z.1 w') := fun z => by
          have h := sfind_any X.vs X.us m.ses o1 o2 z.1 ((HM.out.f.at z.2).S)
          rw [← M.sfind_eq, HSF.out] at h
          exact h.mono fun e w' ⟨h1, h2⟩ => ⟨h1, ext_of_eq h2⟩
        repeat (refine mix_soft rfl (fun K hK => ?_); go_simp; (first | (refine hK _ ?_; clear hK K) | (apply Exists.intro; refine ⟨fun z => ?_, hK _ ?_⟩; (first | (go_at_call 24; exact HFy.out z)); clear hK K)))
        refine mix_done fun w4 hx => ?_
        have HMq := Lib.hid (HM.out.below hx)
        have HXq : Hid (Ex (X.foot B) w2 w4) := HX.out.trans (Ex.of_below hx)
        have HXWq := Lib.hid (below_next HXW.out hx)
        clear HM HX HXW hx
        have HM := HMq
        have HX := HXq
        have HXW := HXWq
        clear HMq HXq HXWq
        clear q8 p1 p2 HFy
        by_cases hf : f < 0
        · have df : decide (f < 0) = true := by simp [hf]
          have HRES : Hid (M.do_ us gs m ⟨o0, o1, o2, o3, o4, o5, o6, o7, o8, o9, kk⟩ = (M.bad 30, m)) := M.do_none HCK.out hk0 hk16 (by rw [HSF.out]; exact hf)
          have st := Lib.hid (not_any 30 w4)
          go_wp2_with fail
          refine st.out.mono ?_
          rintro e wn ⟨rfl, hx⟩
          have HMn := Lib.hid (HM.out.below hx)
          have HXn : Hid (Ex (X.foot B) w2 wn) := HX.out.trans (Ex.of_below hx)
          clear st hx HM HX
          have hrb := HRb.out wn HXn.out
          obtain ⟨⟨v0, z0⟩, ⟨v1, z1⟩, ⟨v2, z2⟩, ⟨v3, z3⟩, ⟨v4, z4⟩, ⟨v5, z5⟩, ⟨v6, z6⟩, ⟨v7, z7⟩⟩ := hrb.olds
          have y0 := hrb.go 0
          have y1 := hrb.go 1
          have y2 := hrb.go 2
          have y3 := hrb.go 3
          have y4 := hrb.go 4
          have y5 := hrb.go 5
          have y6 := hrb.go 6
          have y7 := hrb.go 7
          clear hrb
          go_wp2_with fail
          refine bodyPost_ret (res_results rfl _ _ R 30 0 (.slice none 0 0) (.slice none 0 0) rfl ((HRb.out wn HXn.out).put 30 0 (.slice none 0 0) (.slice none 0 0))) rfl ?_
          have HF1 : Ending.returned (resv 30 0 (.slice none 0 0) (.slice none 0 0)) = Ending.returned (resv (M.do_ us gs m ⟨o0, o1, o2, o3, o4, o5, o6, o7, o8, o9, kk⟩).1.e (M.do_ us gs m ⟨o0, o1, o2, o3, o4, o5, o6, o7, o8, o9, kk⟩).1.n (.slice none 0 0) (.slice none 0 0)) := by rw [HRES.out] <;> rfl
          have HF2 : Left G w (rbw wn R 30 0 (.slice none 0 0) (.slice none 0 0)) B n vn vu vq vg X X (M.do_ us gs m ⟨o0, o1, o2, o3, o4, o5, o6, o7, o8, o9, kk⟩).2 := by
            rw [HRES.out]
            exact Left.res1 HLT.out HXG.out HMn.out (Ex.trans (Ex.of_below HE.out.b) HXn.out) (Nat.le_of_lt HR2.out) rfl 30 0 (.slice none 0 0) (.slice none 0 0)
          exact mut_do ⟨_, HF1, HF2⟩ (by rw [HRES.out] <;> rfl) (by rw [HRES.out] <;> rfl)
        · have df : decide (f < 0) = false := by simp [hf]
          have HDO : Hid (∀ k, k ≠ 0 → k ≠ 16 → M.check us.length ⟨k, o1, o2, o3, o4, o5, o6, o7, o8, o9, kk⟩ = true → M.do_ us gs m ⟨k, o1, o2, o3, o4, o5, o6, o7, o8, o9, kk⟩ = M.rest us gs m ⟨k, o1, o2, o3, o4, o5, o6, o7, o8, o9, kk⟩) := fun k a b c => M.do_rest c a b (by rw [HSF.out]; exact hf)
          clear HSF
          by_cases hk9 : o0 = 9
          · subst hk9
            have HLV := Lib.hid (M.check_lv HCK.out (show (9 : Int) ≠ 16 by decide))
            have dk9 : decide ((9 : Int) = 9) = true := by decide
            have ek9 : ((9 : Int) == 9) = true := by decide
            have dk10 : decide ((9 : Int) = 10) = false := by decide
            have ek10 : ((9 : Int) == 10) = false := by decide
            have dk11 : decide ((9 : Int) = 11) = false := by decide
            have ek11 : ((9 : Int) == 11) = false := by decide
            have dk12 : decide ((9 : Int) = 12) = false := by decide
            have ek12 : ((9 : Int) == 12) = false := by decide
            have dk13 : decide ((9 : Int) = 13) = false := by decide
            have ek13 : ((9 : Int) == 13) = false := by decide
            have dk14 : decide ((9 : Int) = 14) = false := by decide
            have ek14 : ((9 : Int) == 14) = false := by decide
            have dk15 : decide ((9 : Int) = 15) = false := by decide
            have ek15 : ((9 : Int) == 15) = false := by decide
            have dk5 : decide ((9 : Int) = 5) = false := by decide
            have ek5 : ((9 : Int) == 5) = false := by decide
            have dk6 : decide ((9 : Int) = 6) = false := by decide
            have ek6 : ((9 : Int) == 6) = false := by decide
            have dk7 : decide ((9 : Int) = 7) = false := by decide
            have ek7 : ((9 : Int) == 7) = false := by decide
            have dk8 : decide ((9 : Int) = 8) = false := by decide
            have ek8 : ((9 : Int) == 8) = false := by decide
            have dk0 : decide ((9 : Int) = 0) = false := by decide
            have ek0 : ((9 : Int) == 0) = false := by decide
            have dk16 : decide ((9 : Int) = 16) = false := by decide
            have ek16 : ((9 : Int) == 16) = false := by decide
            have HRES : Hid (M.do_ us gs m ⟨9, o1, o2, o3, o4, o5, o6, o7, o8, o9, kk⟩ = (M.read us m ⟨9, o1, o2, o3, o4, o5, o6, o7, o8, o9, kk⟩, m)) := by unfold Hid; rw [HDO.out 9 (by decide) (by decide) HCK.out]; simp [M.rest]
            obtain ⟨r, hr⟩ : ∃ r, M.read us m ⟨9, o1, o2, o3, o4, o5, o6, o7, o8, o9, kk⟩ = r := ⟨_, rfl⟩
            obtain ⟨p0, p1, p2, p3, p4, p5, p6, p7, p8, p9, p10⟩ := HOP.out w4 HX.out
            have HIN := Lib.hid ((read_any w4 B n vn vu vq vg X m ⟨9, o1, o2, o3, o4, o5, o6, o7, o8, o9, kk⟩ u us HM.out.mr HPN.out (HUs.out w4 HXW.out) HU64.out HNN.out (by have := HN.out; omega) (fun x hx => Nat.le_trans (M.sees_len HFW.out ⟨9, o1, o2, o3, o4, o5, o6, o7, o8, o9, kk⟩ x) (by omega))).mono fun e w h => read_do HM.out h (M.read_recs _ _ _))
            rw [hr] at HIN HRES
            clear hr
            go_wp2_with fail
            refine HIN.out.mono ?_
            rintro e wj ⟨X', vr, vc, rfl, hL, hR, hC⟩
            obtain ⟨ra, rc, hvr, -⟩ := (hR.here).shape
            obtain ⟨ca, cc, hvc, -⟩ := Sl.shape hC.here
            have HXj : Hid (Ex (X.foot B) w2 wj) := HX.out.trans hL.ex
            have HL := Lib.hid (hL.wrap HLT.out HXG.out HE.out.b HX.out HR2.out HR3.out)
            have HRR := Lib.hid hR
            have HCC := Lib.hid hC
            clear HIN hL hR hC HM HX p0 p1 p2 p3 p4 p5 p6 p7 p8 p9 p10
            obtain ⟨rn, hrn⟩ : ∃ k, r.rows.length = k := ⟨_, rfl⟩
            obtain ⟨cn, hcn⟩ : ∃ k, r.recs.length = k := ⟨_, rfl⟩
            rw [hrn] at hvr
            rw [hcn] at hvc
            clear hrn hcn
            subst hvr hvc
            obtain ⟨re, hre⟩ : ∃ k, r.e = k := ⟨_, rfl⟩
            obtain ⟨rm, hrm⟩ : ∃ k, r.n = k := ⟨_, rfl⟩
            have HRE := Lib.hid hre
            have HRM := Lib.hid hrm
            rw [hre, hrm]
            clear hre hrm
            have hrb := HRb.out wj HXj.out
            obtain ⟨⟨v0, z0⟩, ⟨v1, z1⟩, ⟨v2, z2⟩, ⟨v3, z3⟩, ⟨v4, z4⟩, ⟨v5, z5⟩, ⟨v6, z6⟩, ⟨v7, z7⟩⟩ := hrb.olds
            have y0 := hrb.go 0
            have y1 := hrb.go 1
            have y2 := hrb.go 2
            have y3 := hrb.go 3
            have y4 := hrb.go 4
            have y5 := hrb.go 5
            have y6 := hrb.go 6
            have y7 := hrb.go 7
            clear hrb
            go_wp2_with fail
            refine bodyPost_ret (res_results rfl _ _ R re rm (.slice ra rn rc) (.slice ca cn cc) rfl ((HRb.out wj HXj.out).put re rm (.slice ra rn rc) (.slice ca cn cc))) rfl ?_
            refine do_wrap HRES.out HRE.out HRM.out (HL.out re rm (.slice ra rn rc) (.slice ca cn cc)) HRR.out HCC.out
          · skip
            by_cases hk10 : o0 = 10
            · subst hk10
              have HLV := Lib.hid (M.check_lv HCK.out (show (10 : Int) ≠ 16 by decide))
              have dk9 : decide ((10 : Int) = 9) = false := by decide
              have ek9 : ((10 : Int) == 9) = false := by decide
              have dk10 : decide ((10 : Int) = 10) = true := by decide
              have ek10 : ((10 : Int) == 10) = true := by decide
              have dk11 : decide ((10 : Int) = 11) = false := by decide
              have ek11 : ((10 : Int) == 11) = false := by decide
              have dk12 : decide ((10 : Int) = 12) = false := by decide
              have ek12 : ((10 : Int) == 12) = false := by decide
              have dk13 : decide ((10 : Int) = 13) = false := by decide
              have ek13 : ((10 : Int) == 13) = false := by decide
              have dk14 : decide ((10 : Int) = 14) = false := by decide
              have ek14 : ((10 : Int) == 14) = false := by decide
              have dk15 : decide ((10 : Int) = 15) = false := by decide
              have ek15 : ((10 : Int) == 15) = false := by decide
              have dk5 : decide ((10 : Int) = 5) = false := by decide
              have ek5 : ((10 : Int) == 5) = false := by decide
              have dk6 : decide ((10 : Int) = 6) = false := by decide
              have ek6 : ((10 : Int) == 6) = false := by decide
              have dk7 : decide ((10 : Int) = 7) = false := by decide
              have ek7 : ((10 : Int) == 7) = false := by decide
              have dk8 : decide ((10 : Int) = 8) = false := by decide
              have ek8 : ((10 : Int) == 8) = false := by decide
              have dk0 : decide ((10 : Int) = 0) = false := by decide
              have ek0 : ((10 : Int) == 0) = false := by decide
              have dk16 : decide ((10 : Int) = 16) = false := by decide
              have ek16 : ((10 : Int) == 16) = false := by decide
              have HRES : Hid (M.do_ us gs m ⟨10, o1, o2, o3, o4, o5, o6, o7, o8, o9, kk⟩ = (M.read us m ⟨10, o1, o2, o3, o4, o5, o6, o7, o8, o9, kk⟩, m)) := by unfold Hid; rw [HDO.out 10 (by decide) (by decide) HCK.out]; simp [M.rest]
              obtain ⟨r, hr⟩ : ∃ r, M.read us m ⟨10, o1, o2, o3, o4, o5, o6, o7, o8, o9, kk⟩ = r := ⟨_, rfl⟩
              obtain ⟨p0, p1, p2, p3, p4, p5, p6, p7, p8, p9, p10⟩ := HOP.out w4 HX.out
              have HIN := Lib.hid ((read_any w4 B n vn vu vq vg X m ⟨10, o1, o2, o3, o4, o5, o6, o7, o8, o9, kk⟩ u us HM.out.mr HPN.out (HUs.out w4 HXW.out) HU64.out HNN.out (by have := HN.out; omega) (fun x hx => Nat.le_trans (M.sees_len HFW.out ⟨10, o1, o2, o3, o4, o5, o6, o7, o8, o9, kk⟩ x) (by omega))).mono fun e w h => read_do HM.out h (M.read_recs _ _ _))
              rw [hr] at HIN HRES
              clear hr
              go_wp2_with fail
              refine HIN.out.mono ?_
              rintro e wj ⟨X', vr, vc, rfl, hL, hR, hC⟩
              obtain ⟨ra, rc, hvr, -⟩ := (hR.here).shape
              obtain ⟨ca, cc, hvc, -⟩ := Sl.shape hC.here
              have HXj : Hid (Ex (X.foot B) w2 wj) := HX.out.trans hL.ex
              have HL := Lib.hid (hL.wrap HLT.out HXG.out HE.out.b HX.out HR2.out HR3.out)
              have HRR := Lib.hid hR
              have HCC := Lib.hid hC
              clear HIN hL hR hC HM HX p0 p1 p2 p3 p4 p5 p6 p7 p8 p9 p10
              obtain ⟨rn, hrn⟩ : ∃ k, r.rows.length = k := ⟨_, rfl⟩
              obtain ⟨cn, hcn⟩ : ∃ k, r.recs.length = k := ⟨_, rfl⟩
              rw [hrn] at hvr
              rw [hcn] at hvc
              clear hrn hcn
              subst hvr hvc
              obtain ⟨re, hre⟩ : ∃ k, r.e = k := ⟨_, rfl⟩
              obtain ⟨rm, hrm⟩ : ∃ k, r.n = k := ⟨_, rfl⟩
              have HRE := Lib.hid hre
              have HRM := Lib.hid hrm
              rw [hre, hrm]
              clear hre hrm
              have hrb := HRb.out wj HXj.out
              obtain ⟨⟨v0, z0⟩, ⟨v1, z1⟩, ⟨v2, z2⟩, ⟨v3, z3⟩, ⟨v4, z4⟩, ⟨v5, z5⟩, ⟨v6, z6⟩, ⟨v7, z7⟩⟩ := hrb.olds
              have y0 := hrb.go 0
              have y1 := hrb.go 1
              have y2 := hrb.go 2
              have y3 := hrb.go 3
              have y4 := hrb.go 4
              have y5 := hrb.go 5
              have y6 := hrb.go 6
              have y7 := hrb.go 7
              clear hrb
              go_wp2_with fail
              refine bodyPost_ret (res_results rfl _ _ R re rm (.slice ra rn rc) (.slice ca cn cc) rfl ((HRb.out wj HXj.out).put re rm (.slice ra rn rc) (.slice ca cn cc))) rfl ?_
              refine do_wrap HRES.out HRE.out HRM.out (HL.out re rm (.slice ra rn rc) (.slice ca cn cc)) HRR.out HCC.out
            · skip
              by_cases hk11 : o0 = 11
              · subst hk11
                have HLV := Lib.hid (M.check_lv HCK.out (show (11 : Int) ≠ 16 by decide))
                have dk9 : decide ((11 : Int) = 9) = false := by decide
                have ek9 : ((11 : Int) == 9) = false := by decide
                have dk10 : decide ((11 : Int) = 10) = false := by decide
                have ek10 : ((11 : Int) == 10) = false := by decide
                have dk11 : decide ((11 : Int) = 11) = true := by decide
                have ek11 : ((11 : Int) == 11) = true := by decide
                have dk12 : decide ((11 : Int) = 12) = false := by decide
                have ek12 : ((11 : Int) == 12) = false := by decide
                have dk13 : decide ((11 : Int) = 13) = false := by decide
                have ek13 : ((11 : Int) == 13) = false := by decide
                have dk14 : decide ((11 : Int) = 14) = false := by decide
                have ek14 : ((11 : Int) == 14) = false := by decide
                have dk15 : decide ((11 : Int) = 15) = false := by decide
                have ek15 : ((11 : Int) == 15) = false := by decide
                have dk5 : decide ((11 : Int) = 5) = false := by decide
                have ek5 : ((11 : Int) == 5) = false := by decide
                have dk6 : decide ((11 : Int) = 6) = false := by decide
                have ek6 : ((11 : Int) == 6) = false := by decide
                have dk7 : decide ((11 : Int) = 7) = false := by decide
                have ek7 : ((11 : Int) == 7) = false := by decide
                have dk8 : decide ((11 : Int) = 8) = false := by decide
                have ek8 : ((11 : Int) == 8) = false := by decide
                have dk0 : decide ((11 : Int) = 0) = false := by decide
                have ek0 : ((11 : Int) == 0) = false := by decide
                have dk16 : decide ((11 : Int) = 16) = false := by decide
                have ek16 : ((11 : Int) == 16) = false := by decide
                have HRES : Hid (M.do_ us gs m ⟨11, o1, o2, o3, o4, o5, o6, o7, o8, o9, kk⟩ = M.snap m ⟨11, o1, o2, o3, o4, o5, o6, o7, o8, o9, kk⟩) := by unfold Hid; rw [HDO.out 11 (by decide) (by decide) HCK.out]; simp [M.rest]
                obtain ⟨r, hr⟩ : ∃ r, M.snap m ⟨11, o1, o2, o3, o4, o5, o6, o7, o8, o9, kk⟩ = r := ⟨_, rfl⟩
                obtain ⟨p0, p1, p2, p3, p4, p5, p6, p7, p8, p9, p10⟩ := HOP.out w4 HX.out
                have HIN := Lib.hid ((snap_any (fun k => G k ∨ k = R) w4 B n vn vu vq vg X m ⟨11, o1, o2, o3, o4, o5, o6, o7, o8, o9, kk⟩ u HM.out (by have := HN.out; omega) HSL.out HS1.out HSN.out).mono fun e w h => mut_do h (M.snap_nil _ _).1 (M.snap_nil _ _).2)
                rw [hr] at HIN HRES
                clear hr
                go_wp2_with fail
                refine HIN.out.mono ?_
                rintro e wj ⟨X', vr, vc, rfl, hL, hR, hC⟩
                obtain ⟨ra, rc, hvr, -⟩ := (hR.here).shape
                obtain ⟨ca, cc, hvc, -⟩ := Sl.shape hC.here
                have HXj : Hid (Ex (X.foot B) w2 wj) := HX.out.trans hL.ex
                have HL := Lib.hid (hL.wrap HLT.out HXG.out HE.out.b HX.out HR2.out HR3.out)
                have HRR := Lib.hid hR
                have HCC := Lib.hid hC
                clear HIN hL hR hC HM HX p0 p1 p2 p3 p4 p5 p6 p7 p8 p9 p10
                obtain ⟨rn, hrn⟩ : ∃ k, r.1.rows.length = k := ⟨_, rfl⟩
                obtain ⟨cn, hcn⟩ : ∃ k, r.1.recs.length = k := ⟨_, rfl⟩
                rw [hrn] at hvr
                rw [hcn] at hvc
                clear hrn hcn
                subst hvr hvc
                obtain ⟨re, hre⟩ : ∃ k, r.1.e = k := ⟨_, rfl⟩
                obtain ⟨rm, hrm⟩ : ∃ k, r.1.n = k := ⟨_, rfl⟩
                have HRE := Lib.hid hre
                have HRM := Lib.hid hrm
                rw [hre, hrm]
                clear hre hrm
                have hrb := HRb.out wj HXj.out
                obtain ⟨⟨v0, z0⟩, ⟨v1, z1⟩, ⟨v2, z2⟩, ⟨v3, z3⟩, ⟨v4, z4⟩, ⟨v5, z5⟩, ⟨v6, z6⟩, ⟨v7, z7⟩⟩ := hrb.olds
                have y0 := hrb.go 0
                have y1 := hrb.go 1
                have y2 := hrb.go 2
                have y3 := hrb.go 3
                have y4 := hrb.go 4
                have y5 := hrb.go 5
                have y6 := hrb.go 6
                have y7 := hrb.go 7
                clear hrb
                go_wp2_with fail
                refine bodyPost_ret (res_results rfl _ _ R re rm (.slice ra rn rc) (.slice ca cn cc) rfl ((HRb.out wj HXj.out).put re rm (.slice ra rn rc) (.slice ca cn cc))) rfl ?_
                refine do_wrap HRES.out HRE.out HRM.out (HL.out re rm (.slice ra rn rc) (.slice ca cn cc)) HRR.out HCC.out
              · skip
                by_cases hk12 : o0 = 12
                · subst hk12
                  have HLV := Lib.hid (M.check_lv HCK.out (show (12 : Int) ≠ 16 by decide))
                  have dk9 : decide ((12 : Int) = 9) = false := by decide
                  have ek9 : ((12 : Int) == 9) = false := by decide
                  have dk10 : decide ((12 : Int) = 10) = false := by decide
                  have ek10 : ((12 : Int) == 10) = false := by decide
                  have dk11 : decide ((12 : Int) = 11) = false := by decide
                  have ek11 : ((12 : Int) == 11) = false := by decide
                  have dk12 : decide ((12 : Int) = 12) = true := by decide
                  have ek12 : ((12 : Int) == 12) = true := by decide
                  have dk13 : decide ((12 : Int) = 13) = false := by decide
                  have ek13 : ((12 : Int) == 13) = false := by decide
                  have dk14 : decide ((12 : Int) = 14) = false := by decide
                  have ek14 : ((12 : Int) == 14) = false := by decide
                  have dk15 : decide ((12 : Int) = 15) = false := by decide
                  have ek15 : ((12 : Int) == 15) = false := by decide
                  have dk5 : decide ((12 : Int) = 5) = false := by decide
                  have ek5 : ((12 : Int) == 5) = false := by decide
                  have dk6 : decide ((12 : Int) = 6) = false := by decide
                  have ek6 : ((12 : Int) == 6) = false := by decide
                  have dk7 : decide ((12 : Int) = 7) = false := by decide
                  have ek7 : ((12 : Int) == 7) = false := by decide
                  have dk8 : decide ((12 : Int) = 8) = false := by decide
                  have ek8 : ((12 : Int) == 8) = false := by decide
                  have dk0 : decide ((12 : Int) = 0) = false := by decide
                  have ek0 : ((12 : Int) == 0) = false := by decide
                  have dk16 : decide ((12 : Int) = 16) = false := by decide
                  have ek16 : ((12 : Int) == 16) = false := by decide
                  have HRES : Hid (M.do_ us gs m ⟨12, o1, o2, o3, o4, o5, o6, o7, o8, o9, kk⟩ = M.snap m ⟨12, o1, o2, o3, o4, o5, o6, o7, o8, o9, kk⟩) := by unfold Hid; rw [HDO.out 12 (by decide) (by decide) HCK.out]; simp [M.rest]
                  obtain ⟨r, hr⟩ : ∃ r, M.snap m ⟨12, o1, o2, o3, o4, o5, o6, o7, o8, o9, kk⟩ = r := ⟨_, rfl⟩
                  obtain ⟨p0, p1, p2, p3, p4, p5, p6, p7, p8, p9, p10⟩ := HOP.out w4 HX.out
                  have HIN := Lib.hid ((snap_any (fun k => G k ∨ k = R) w4 B n vn vu vq vg X m ⟨12, o1, o2, o3, o4, o5, o6, o7, o8, o9, kk⟩ u HM.out (by have := HN.out; omega) HSL.out HS1.out HSN.out).mono fun e w h => mut_do h (M.snap_nil _ _).1 (M.snap_nil _ _).2)
                  rw [hr] at HIN HRES
                  clear hr
                  go_wp2_with fail
                  refine HIN.out.mono ?_
                  rintro e wj ⟨X', vr, vc, rfl, hL, hR, hC⟩
                  obtain ⟨ra, rc, hvr, -⟩ := (hR.here).shape
                  obtain ⟨ca, cc, hvc, -⟩ := Sl.shape hC.here
                  have HXj : Hid (Ex (X.foot B) w2 wj) := HX.out.trans hL.ex
                  have HL := Lib.hid (hL.wrap HLT.out HXG.out HE.out.b HX.out HR2.out HR3.out)
                  have HRR := Lib.hid hR
                  have HCC := Lib.hid hC
                  clear HIN hL hR hC HM HX p0 p1 p2 p3 p4 p5 p6 p7 p8 p9 p10
                  obtain ⟨rn, hrn⟩ : ∃ k, r.1.rows.length = k := ⟨_, rfl⟩
                  obtain ⟨cn, hcn⟩ : ∃ k, r.1.recs.length = k := ⟨_, rfl⟩
                  rw [hrn] at hvr
                  rw [hcn] at hvc
                  clear hrn hcn
                  subst hvr hvc
                  obtain ⟨re, hre⟩ : ∃ k, r.1.e = k := ⟨_, rfl⟩
                  obtain ⟨rm, hrm⟩ : ∃ k, r.1.n = k := ⟨_, rfl⟩
                  have HRE := Lib.hid hre
                  have HRM := Lib.hid hrm
                  rw [hre, hrm]
                  clear hre hrm
                  have hrb := HRb.out wj HXj.out
                  obtain ⟨⟨v0, z0⟩, ⟨v1, z1⟩, ⟨v2, z2⟩, ⟨v3, z3⟩, ⟨v4, z4⟩, ⟨v5, z5⟩, ⟨v6, z6⟩, ⟨v7, z7⟩⟩ := hrb.olds
                  have y0 := hrb.go 0
                  have y1 := hrb.go 1
                  have y2 := hrb.go 2
                  have y3 := hrb.go 3
                  have y4 := hrb.go 4
                  have y5 := hrb.go 5
                  have y6 := hrb.go 6
                  have y7 := hrb.go 7
                  clear hrb
                  go_wp2_with fail
                  refine bodyPost_ret (res_results rfl _ _ R re rm (.slice ra rn rc) (.slice ca cn cc) rfl ((HRb.out wj HXj.out).put re rm (.slice ra rn rc) (.slice ca cn cc))) rfl ?_
                  refine do_wrap HRES.out HRE.out HRM.out (HL.out re rm (.slice ra rn rc) (.slice ca cn cc)) HRR.out HCC.out
                · skip
                  by_cases hk13 : o0 = 13
                  · subst hk13
                    have HLV := Lib.hid (M.check_lv HCK.out (show (13 : Int) ≠ 16 by decide))
                    have dk9 : decide ((13 : Int) = 9) = false := by decide
                    have ek9 : ((13 : Int) == 9) = false := by decide
                    have dk10 : decide ((13 : Int) = 10) = false := by decide
                    have ek10 : ((13 : Int) == 10) = false := by decide
                    have dk11 : decide ((13 : Int) = 11) = false := by decide
                    have ek11 : ((13 : Int) == 11) = false := by decide
                    have dk12 : decide ((13 : Int) = 12) = false := by decide
                    have ek12 : ((13 : Int) == 12) = false := by decide
                    have dk13 : decide ((13 : Int) = 13) = true := by decide
                    have ek13 : ((13 : Int) == 13) = true := by decide
                    have dk14 : decide ((13 : Int) = 14) = false := by decide
                    have ek14 : ((13 : Int) == 14) = false := by decide
                    have dk15 : decide ((13 : Int) = 15) = false := by decide
                    have ek15 : ((13 : Int) == 15) = false := by decide
                    have dk5 : decide ((13 : Int) = 5) = false := by decide
                    have ek5 : ((13 : Int) == 5) = false := by decide
                    have dk6 : decide ((13 : Int) = 6) = false := by decide
                    have ek6 : ((13 : Int) == 6) = false := by decide
                    have dk7 : decide ((13 : Int) = 7) = false := by decide
                    have ek7 : ((13 : Int) == 7) = false := by decide
                    have dk8 : decide ((13 : Int) = 8) = false := by decide
                    have ek8 : ((13 : Int) == 8) = false := by decide
                    have dk0 : decide ((13 : Int) = 0) = false := by decide
                    have ek0 : ((13 : Int) == 0) = false := by decide
                    have dk16 : decide ((13 : Int) = 16) = false := by decide
                    have ek16 : ((13 : Int) == 16) = false := by decide
                    have HRES : Hid (M.do_ us gs m ⟨13, o1, o2, o3, o4, o5, o6, o7, o8, o9, kk⟩ = (M.look us m ⟨13, o1, o2, o3, o4, o5, o6, o7, o8, o9, kk⟩, m)) := by unfold Hid; rw [HDO.out 13 (by decide) (by decide) HCK.out]; simp [M.rest]
                    obtain ⟨r, hr⟩ : ∃ r, M.look us m ⟨13, o1, o2, o3, o4, o5, o6, o7, o8, o9, kk⟩ = r := ⟨_, rfl⟩
                    obtain ⟨p0, p1, p2, p3, p4, p5, p6, p7, p8, p9, p10⟩ := HOP.out w4 HX.out
                    have HIN := Lib.hid ((look_any (fun k => G k ∨ k = R) w4 B n vn vu vq vg X m ⟨13, o1, o2, o3, o4, o5, o6, o7, o8, o9, kk⟩ u us HM.out.mr (fun W hW => (HM.out.f W hW).A) (HUs.out w4 HXW.out) HU64.out HNN.out).mono fun e w h => look_do HM.out (M.look_nil _ _ _) h)
                    rw [hr] at HIN HRES
                    clear hr
                    go_wp2_with fail
                    refine HIN.out.mono ?_
                    rintro e wj ⟨X', vr, vc, rfl, hL, hR, hC⟩
                    obtain ⟨ra, rc, hvr, -⟩ := (hR.here).shape
                    obtain ⟨ca, cc, hvc, -⟩ := Sl.shape hC.here
                    have HXj : Hid (Ex (X.foot B) w2 wj) := HX.out.trans hL.ex
                    have HL := Lib.hid (hL.wrap HLT.out HXG.out HE.out.b HX.out HR2.out HR3.out)
                    have HRR := Lib.hid hR
                    have HCC := Lib.hid hC
                    clear HIN hL hR hC HM HX p0 p1 p2 p3 p4 p5 p6 p7 p8 p9 p10
                    obtain ⟨rn, hrn⟩ : ∃ k, r.rows.length = k := ⟨_, rfl⟩
                    obtain ⟨cn, hcn⟩ : ∃ k, r.recs.length = k := ⟨_, rfl⟩
                    rw [hrn] at hvr
                    rw [hcn] at hvc
                    clear hrn hcn
                    subst hvr hvc
                    obtain ⟨re, hre⟩ : ∃ k, r.e = k := ⟨_, rfl⟩
                    obtain ⟨rm, hrm⟩ : ∃ k, r.n = k := ⟨_, rfl⟩
                    have HRE := Lib.hid hre
                    have HRM := Lib.hid hrm
                    rw [hre, hrm]
                    clear hre hrm
                    have hrb := HRb.out wj HXj.out
                    obtain ⟨⟨v0, z0⟩, ⟨v1, z1⟩, ⟨v2, z2⟩, ⟨v3, z3⟩, ⟨v4, z4⟩, ⟨v5, z5⟩, ⟨v6, z6⟩, ⟨v7, z7⟩⟩ := hrb.olds
                    have y0 := hrb.go 0
                    have y1 := hrb.go 1
                    have y2 := hrb.go 2
                    have y3 := hrb.go 3
                    have y4 := hrb.go 4
                    have y5 := hrb.go 5
                    have y6 := hrb.go 6
                    have y7 := hrb.go 7
                    clear hrb
                    go_wp2_with fail
                    refine bodyPost_ret (res_results rfl _ _ R re rm (.slice ra rn rc) (.slice ca cn cc) rfl ((HRb.out wj HXj.out).put re rm (.slice ra rn rc) (.slice ca cn cc))) rfl ?_
                    refine do_wrap HRES.out HRE.out HRM.out (HL.out re rm (.slice ra rn rc) (.slice ca cn cc)) HRR.out HCC.out
                  · skip
                    by_cases hk14 : o0 = 14
                    · subst hk14
                      have HLV := Lib.hid (M.check_lv HCK.out (show (14 : Int) ≠ 16 by decide))
                      have dk9 : decide ((14 : Int) = 9) = false := by decide
                      have ek9 : ((14 : Int) == 9) = false := by decide
                      have dk10 : decide ((14 : Int) = 10) = false := by decide
                      have ek10 : ((14 : Int) == 10) = false := by decide
                      have dk11 : decide ((14 : Int) = 11) = false := by decide
                      have ek11 : ((14 : Int) == 11) = false := by decide
                      have dk12 : decide ((14 : Int) = 12) = false := by decide
                      have ek12 : ((14 : Int) == 12) = false := by decide
                      have dk13 : decide ((14 : Int) = 13) = false := by decide
                      have ek13 : ((14 : Int) == 13) = false := by decide
                      have dk14 : decide ((14 : Int) = 14) = true := by decide
                      have ek14 : ((14 : Int) == 14) = true := by decide
                      have dk15 : decide ((14 : Int) = 15) = false := by decide
                      have ek15 : ((14 : Int) == 15) = false := by decide
                      have dk5 : decide ((14 : Int) = 5) = false := by decide
                      have ek5 : ((14 : Int) == 5) = false := by decide
                      have dk6 : decide ((14 : Int) = 6) = false := by decide
                      have ek6 : ((14 : Int) == 6) = false := by decide
                      have dk7 : decide ((14 : Int) = 7) = false := by decide
                      have ek7 : ((14 : Int) == 7) = false := by decide
                      have dk8 : decide ((14 : Int) = 8) = false := by decide
                      have ek8 : ((14 : Int) == 8) = false := by decide
                      have dk0 : decide ((14 : Int) = 0) = false := by decide
                      have ek0 : ((14 : Int) == 0) = false := by decide
                      have dk16 : decide ((14 : Int) = 16) = false := by decide
                      have ek16 : ((14 : Int) == 16) = false := by decide
                      have HRES : Hid (M.do_ us gs m ⟨14, o1, o2, o3, o4, o5, o6, o7, o8, o9, kk⟩ = (M.look us m ⟨14, o1, o2, o3, o4, o5, o6, o7, o8, o9, kk⟩, m)) := by unfold Hid; rw [HDO.out 14 (by decide) (by decide) HCK.out]; simp [M.rest]
                      obtain ⟨r, hr⟩ : ∃ r, M.look us m ⟨14, o1, o2, o3, o4, o5, o6, o7, o8, o9, kk⟩ = r := ⟨_, rfl⟩
                      obtain ⟨p0, p1, p2, p3, p4, p5, p6, p7, p8, p9, p10⟩ := HOP.out w4 HX.out
                      have HIN := Lib.hid ((look_any (fun k => G k ∨ k = R) w4 B n vn vu vq vg X m ⟨14, o1, o2, o3, o4, o5, o6, o7, o8, o9, kk⟩ u us HM.out.mr (fun W hW => (HM.out.f W hW).A) (HUs.out w4 HXW.out) HU64.out HNN.out).mono fun e w h => look_do HM.out (M.look_nil _ _ _) h)
                      rw [hr] at HIN HRES
                      clear hr
                      go_wp2_with fail
                      refine HIN.out.mono ?_
                      rintro e wj ⟨X', vr, vc, rfl, hL, hR, hC⟩
                      obtain ⟨ra, rc, hvr, -⟩ := (hR.here).shape
                      obtain ⟨ca, cc, hvc, -⟩ := Sl.shape hC.here
                      have HXj : Hid (Ex (X.foot B) w2 wj) := HX.out.trans hL.ex
                      have HL := Lib.hid (hL.wrap HLT.out HXG.out HE.out.b HX.out HR2.out HR3.out)
                      have HRR := Lib.hid hR
                      have HCC := Lib.hid hC
                      clear HIN hL hR hC HM HX p0 p1 p2 p3 p4 p5 p6 p7 p8 p9 p10
                      obtain ⟨rn, hrn⟩ : ∃ k, r.rows.length = k := ⟨_, rfl⟩
                      obtain ⟨cn, hcn⟩ : ∃ k, r.recs.length = k := ⟨_, rfl⟩
                      rw [hrn] at hvr
                      rw [hcn] at hvc
                      clear hrn hcn
                      subst hvr hvc
                      obtain ⟨re, hre⟩ : ∃ k, r.e = k := ⟨_, rfl⟩
                      obtain ⟨rm, hrm⟩ : ∃ k, r.n = k := ⟨_, rfl⟩
                      have HRE := Lib.hid hre
                      have HRM := Lib.hid hrm
                      rw [hre, hrm]
                      clear hre hrm
                      have hrb := HRb.out wj HXj.out
                      obtain ⟨⟨v0, z0⟩, ⟨v1, z1⟩, ⟨v2, z2⟩, ⟨v3, z3⟩, ⟨v4, z4⟩, ⟨v5, z5⟩, ⟨v6, z6⟩, ⟨v7, z7⟩⟩ := hrb.olds
                      have y0 := hrb.go 0
                      have y1 := hrb.go 1
                      have y2 := hrb.go 2
                      have y3 := hrb.go 3
                      have y4 := hrb.go 4
                      have y5 := hrb.go 5
                      have y6 := hrb.go 6
                      have y7 := hrb.go 7
                      clear hrb
                      go_wp2_with fail
                      refine bodyPost_ret (res_results rfl _ _ R re rm (.slice ra rn rc) (.slice ca cn cc) rfl ((HRb.out wj HXj.out).put re rm (.slice ra rn rc) (.slice ca cn cc))) rfl ?_
                      refine do_wrap HRES.out HRE.out HRM.out (HL.out re rm (.slice ra rn rc) (.slice ca cn cc)) HRR.out HCC.out
                    · skip
                      by_cases hk15 : o0 = 15
                      · subst hk15
                        have HLV := Lib.hid (M.check_lv HCK.out (show (15 : Int) ≠ 16 by decide))
                        have dk9 : decide ((15 : Int) = 9) = false := by decide
                        have ek9 : ((15 : Int) == 9) = false := by decide
                        have dk10 : decide ((15 : Int) = 10) = false := by decide
                        have ek10 : ((15 : Int) == 10) = false := by decide
                        have dk11 : decide ((15 : Int) = 11) = false := by decide
                        have ek11 : ((15 : Int) == 11) = false := by decide
                        have dk12 : decide ((15 : Int) = 12) = false := by decide
                        have ek12 : ((15 : Int) == 12) = false := by decide
                        have dk13 : decide ((15 : Int) = 13) = false := by decide
                        have ek13 : ((15 : Int) == 13) = false := by decide
                        have dk14 : decide ((15 : Int) = 14) = false := by decide
                        have ek14 : ((15 : Int) == 14) = false := by decide
                        have dk15 : decide ((15 : Int) = 15) = true := by decide
                        have ek15 : ((15 : Int) == 15) = true := by decide
                        have dk5 : decide ((15 : Int) = 5) = false := by decide
                        have ek5 : ((15 : Int) == 5) = false := by decide
                        have dk6 : decide ((15 : Int) = 6) = false := by decide
                        have ek6 : ((15 : Int) == 6) = false := by decide
                        have dk7 : decide ((15 : Int) = 7) = false := by decide
                        have ek7 : ((15 : Int) == 7) = false := by decide
                        have dk8 : decide ((15 : Int) = 8) = false := by decide
                        have ek8 : ((15 : Int) == 8) = false := by decide
                        have dk0 : decide ((15 : Int) = 0) = false := by decide
                        have ek0 : ((15 : Int) == 0) = false := by decide
                        have dk16 : decide ((15 : Int) = 16) = false := by decide
                        have ek16 : ((15 : Int) == 16) = false := by decide
                        have HRES : Hid (M.do_ us gs m ⟨15, o1, o2, o3, o4, o5, o6, o7, o8, o9, kk⟩ = M.declassify us gs m ⟨15, o1, o2, o3, o4, o5, o6, o7, o8, o9, kk⟩) := by unfold Hid; rw [HDO.out 15 (by decide) (by decide) HCK.out]; simp [M.rest]
                        obtain ⟨r, hr⟩ : ∃ r, M.declassify us gs m ⟨15, o1, o2, o3, o4, o5, o6, o7, o8, o9, kk⟩ = r := ⟨_, rfl⟩
                        obtain ⟨p0, p1, p2, p3, p4, p5, p6, p7, p8, p9, p10⟩ := HOP.out w4 HX.out
                        have HIN := Lib.hid ((declassify_any (fun k => G k ∨ k = R) w4 B n vn vu vq vg X m ⟨15, o1, o2, o3, o4, o5, o6, o7, o8, o9, kk⟩ u HM.out us gs (HUs.out w4 HXW.out) HU64.out HNN.out (HGs.out w4 HXW.out) (Nat.le_trans (HFW.out.getL _).1 (by omega)) (fun e he => Nat.le_trans ((HFW.out.getL _).2 e he) (by omega)) (Nat.le_trans (HFW.out.getL _).1 (by omega)) (Nat.le_trans (HFW.out.getA _) (by omega))).mono fun e w h => mut_do h (M.decl_nil _ _ _ _).1 (M.decl_nil _ _ _ _).2)
                        rw [hr] at HIN HRES
                        clear hr
                        go_wp2_with fail
                        refine HIN.out.mono ?_
                        rintro e wj ⟨X', vr, vc, rfl, hL, hR, hC⟩
                        obtain ⟨ra, rc, hvr, -⟩ := (hR.here).shape
                        obtain ⟨ca, cc, hvc, -⟩ := Sl.shape hC.here
                        have HXj : Hid (Ex (X.foot B) w2 wj) := HX.out.trans hL.ex
                        have HL := Lib.hid (hL.wrap HLT.out HXG.out HE.out.b HX.out HR2.out HR3.out)
                        have HRR := Lib.hid hR
                        have HCC := Lib.hid hC
                        clear HIN hL hR hC HM HX p0 p1 p2 p3 p4 p5 p6 p7 p8 p9 p10
                        obtain ⟨rn, hrn⟩ : ∃ k, r.1.rows.length = k := ⟨_, rfl⟩
                        obtain ⟨cn, hcn⟩ : ∃ k, r.1.recs.length = k := ⟨_, rfl⟩
                        rw [hrn] at hvr
                        rw [hcn] at hvc
                        clear hrn hcn
                        subst hvr hvc
                        obtain ⟨re, hre⟩ : ∃ k, r.1.e = k := ⟨_, rfl⟩
                        obtain ⟨rm, hrm⟩ : ∃ k, r.1.n = k := ⟨_, rfl⟩
                        have HRE := Lib.hid hre
                        have HRM := Lib.hid hrm
                        rw [hre, hrm]
                        clear hre hrm
                        have hrb := HRb.out wj HXj.out
                        obtain ⟨⟨v0, z0⟩, ⟨v1, z1⟩, ⟨v2, z2⟩, ⟨v3, z3⟩, ⟨v4, z4⟩, ⟨v5, z5⟩, ⟨v6, z6⟩, ⟨v7, z7⟩⟩ := hrb.olds
                        have y0 := hrb.go 0
                        have y1 := hrb.go 1
                        have y2 := hrb.go 2
                        have y3 := hrb.go 3
                        have y4 := hrb.go 4
                        have y5 := hrb.go 5
                        have y6 := hrb.go 6
                        have y7 := hrb.go 7
                        clear hrb
                        go_wp2_with fail
                        refine bodyPost_ret (res_results rfl _ _ R re rm (.slice ra rn rc) (.slice ca cn cc) rfl ((HRb.out wj HXj.out).put re rm (.slice ra rn rc) (.slice ca cn cc))) rfl ?_
                        refine do_wrap HRES.out HRE.out HRM.out (HL.out re rm (.slice ra rn rc) (.slice ca cn cc)) HRR.out HCC.out
                      · skip
                        by_cases hk5 : o0 = 5
                        · subst hk5
                          have HLV := Lib.hid (M.check_lv HCK.out (show (5 : Int) ≠ 16 by decide))
                          have dk9 : decide ((5 : Int) = 9) = false := by decide
                          have ek9 : ((5 : Int) == 9) = false := by decide
                          have dk10 : decide ((5 : Int) = 10) = false := by decide
                          have ek10 : ((5 : Int) == 10) = false := by decide
                          have dk11 : decide ((5 : Int) = 11) = false := by decide
                          have ek11 : ((5 : Int) == 11) = false := by decide
                          have dk12 : decide ((5 : Int) = 12) = false := by decide
                          have ek12 : ((5 : Int) == 12) = false := by decide
                          have dk13 : decide ((5 : Int) = 13) = false := by decide
                          have ek13 : ((5 : Int) == 13) = false := by decide
                          have dk14 : decide ((5 : Int) = 14) = false := by decide
                          have ek14 : ((5 : Int) == 14) = false := by decide
                          have dk15 : decide ((5 : Int) = 15) = false := by decide
                          have ek15 : ((5 : Int) == 15) = false := by decide
                          have dk5 : decide ((5 : Int) = 5) = true := by decide
                          have ek5 : ((5 : Int) == 5) = true := by decide
                          have dk6 : decide ((5 : Int) = 6) = false := by decide
                          have ek6 : ((5 : Int) == 6) = false := by decide
                          have dk7 : decide ((5 : Int) = 7) = false := by decide
                          have ek7 : ((5 : Int) == 7) = false := by decide
                          have dk8 : decide ((5 : Int) = 8) = false := by decide
                          have ek8 : ((5 : Int) == 8) = false := by decide
                          have dk0 : decide ((5 : Int) = 0) = false := by decide
                          have ek0 : ((5 : Int) == 0) = false := by decide
                          have dk16 : decide ((5 : Int) = 16) = false := by decide
                          have ek16 : ((5 : Int) == 16) = false := by decide
                          have HRES : Hid (M.do_ us gs m ⟨5, o1, o2, o3, o4, o5, o6, o7, o8, o9, kk⟩ = M.write m ⟨5, o1, o2, o3, o4, o5, o6, o7, o8, o9, kk⟩) := by unfold Hid; rw [HDO.out 5 (by decide) (by decide) HCK.out]; simp [M.rest]
                          obtain ⟨r, hr⟩ : ∃ r, M.write m ⟨5, o1, o2, o3, o4, o5, o6, o7, o8, o9, kk⟩ = r := ⟨_, rfl⟩
                          obtain ⟨p0, p1, p2, p3, p4, p5, p6, p7, p8, p9, p10⟩ := HOP.out w4 HX.out
                          have HIN := Lib.hid ((write_any (fun k => G k ∨ k = R) w4 B n vn vu vq vg X m ⟨5, o1, o2, o3, o4, o5, o6, o7, o8, o9, kk⟩ u HM.out HLV.out.1 (by have := HLV.out.2; rw [HNN.out] at this; exact this) (Nat.le_trans (HFW.out.getD _) (by omega))).mono fun e w h => mut_do h (M.write_nil _ _).1 (M.write_nil _ _).2)
                          rw [hr] at HIN HRES
                          clear hr
                          go_wp2_with fail
                          refine HIN.out.mono ?_
                          rintro e wj ⟨X', vr, vc, rfl, hL, hR, hC⟩
                          obtain ⟨ra, rc, hvr, -⟩ := (hR.here).shape
                          obtain ⟨ca, cc, hvc, -⟩ := Sl.shape hC.here
                          have HXj : Hid (Ex (X.foot B) w2 wj) := HX.out.trans hL.ex
                          have HL := Lib.hid (hL.wrap HLT.out HXG.out HE.out.b HX.out HR2.out HR3.out)
                          have HRR := Lib.hid hR
                          have HCC := Lib.hid hC
                          clear HIN hL hR hC HM HX p0 p1 p2 p3 p4 p5 p6 p7 p8 p9 p10
                          obtain ⟨rn, hrn⟩ : ∃ k, r.1.rows.length = k := ⟨_, rfl⟩
                          obtain ⟨cn, hcn⟩ : ∃ k, r.1.recs.length = k := ⟨_, rfl⟩
                          rw [hrn] at hvr
                          rw [hcn] at hvc
                          clear hrn hcn
                          subst hvr hvc
                          obtain ⟨re, hre⟩ : ∃ k, r.1.e = k := ⟨_, rfl⟩
                          obtain ⟨rm, hrm⟩ : ∃ k, r.1.n = k := ⟨_, rfl⟩
                          have HRE := Lib.hid hre
                          have HRM := Lib.hid hrm
                          rw [hre, hrm]
                          clear hre hrm
                          have hrb := HRb.out wj HXj.out
                          obtain ⟨⟨v0, z0⟩, ⟨v1, z1⟩, ⟨v2, z2⟩, ⟨v3, z3⟩, ⟨v4, z4⟩, ⟨v5, z5⟩, ⟨v6, z6⟩, ⟨v7, z7⟩⟩ := hrb.olds
                          have y0 := hrb.go 0
                          have y1 := hrb.go 1
                          have y2 := hrb.go 2
                          have y3 := hrb.go 3
                          have y4 := hrb.go 4
                          have y5 := hrb.go 5
                          have y6 := hrb.go 6
                          have y7 := hrb.go 7
                          clear hrb
                          go_wp2_with fail
                          refine bodyPost_ret (res_results rfl _ _ R re rm (.slice ra rn rc) (.slice ca cn cc) rfl ((HRb.out wj HXj.out).put re rm (.slice ra rn rc) (.slice ca cn cc))) rfl ?_
                          refine do_wrap HRES.out HRE.out HRM.out (HL.out re rm (.slice ra rn rc) (.slice ca cn cc)) HRR.out HCC.out
                        · skip
                          by_cases hk6 : o0 = 6
                          · subst hk6
                            have HLV := Lib.hid (M.check_lv HCK.out (show (6 : Int) ≠ 16 by decide))
                            have dk9 : decide ((6 : Int) = 9) = false := by decide
                            have ek9 : ((6 : Int) == 9) = false := by decide
                            have dk10 : decide ((6 : Int) = 10) = false := by decide
                            have ek10 : ((6 : Int) == 10) = false := by decide
                            have dk11 : decide ((6 : Int) = 11) = false := by decide
                            have ek11 : ((6 : Int) == 11) = false := by decide
                            have dk12 : decide ((6 : Int) = 12) = false := by decide
                            have ek12 : ((6 : Int) == 12) = false := by decide
                            have dk13 : decide ((6 : Int) = 13) = false := by decide
                            have ek13 : ((6 : Int) == 13) = false := by decide
                            have dk14 : decide ((6 : Int) = 14) = false := by decide
                            have ek14 : ((6 : Int) == 14) = false := by decide
                            have dk15 : decide ((6 : Int) = 15) = false := by decide
                            have ek15 : ((6 : Int) == 15) = false := by decide
                            have dk5 : decide ((6 : Int) = 5) = false := by decide
                            have ek5 : ((6 : Int) == 5) = false := by decide
                            have dk6 : decide ((6 : Int) = 6) = true := by decide
                            have ek6 : ((6 : Int) == 6) = true := by decide
                            have dk7 : decide ((6 : Int) = 7) = false := by decide
                            have ek7 : ((6 : Int) == 7) = false := by decide
                            have dk8 : decide ((6 : Int) = 8) = false := by decide
                            have ek8 : ((6 : Int) == 8) = false := by decide
                            have dk0 : decide ((6 : Int) = 0) = false := by decide
                            have ek0 : ((6 : Int) == 0) = false := by decide
                            have dk16 : decide ((6 : Int) = 16) = false := by decide
                            have ek16 : ((6 : Int) == 16) = false := by decide
                            have HRES : Hid (M.do_ us gs m ⟨6, o1, o2, o3, o4, o5, o6, o7, o8, o9, kk⟩ = M.write m ⟨6, o1, o2, o3, o4, o5, o6, o7, o8, o9, kk⟩) := by unfold Hid; rw [HDO.out 6 (by decide) (by decide) HCK.out]; simp [M.rest]
                            obtain ⟨r, hr⟩ : ∃ r, M.write m ⟨6, o1, o2, o3, o4, o5, o6, o7, o8, o9, kk⟩ = r := ⟨_, rfl⟩
                            obtain ⟨p0, p1, p2, p3, p4, p5, p6, p7, p8, p9, p10⟩ := HOP.out w4 HX.out
                            have HIN := Lib.hid ((write_any (fun k => G k ∨ k = R) w4 B n vn vu vq vg X m ⟨6, o1, o2, o3, o4, o5, o6, o7, o8, o9, kk⟩ u HM.out HLV.out.1 (by have := HLV.out.2; rw [HNN.out] at this; exact this) (Nat.le_trans (HFW.out.getD _) (by omega))).mono fun e w h => mut_do h (M.write_nil _ _).1 (M.write_nil _ _).2)
                            rw [hr] at HIN HRES
                            clear hr
                            go_wp2_with fail
                            refine HIN.out.mono ?_
                            rintro e wj ⟨X', vr, vc, rfl, hL, hR, hC⟩
                            obtain ⟨ra, rc, hvr, -⟩ := (hR.here).shape
                            obtain ⟨ca, cc, hvc, -⟩ := Sl.shape hC.here
                            have HXj : Hid (Ex (X.foot B) w2 wj) := HX.out.trans hL.ex
                            have HL := Lib.hid (hL.wrap HLT.out HXG.out HE.out.b HX.out HR2.out HR3.out)
                            have HRR := Lib.hid hR
                            have HCC := Lib.hid hC
                            clear HIN hL hR hC HM HX p0 p1 p2 p3 p4 p5 p6 p7 p8 p9 p10
                            obtain ⟨rn, hrn⟩ : ∃ k, r.1.rows.length = k := ⟨_, rfl⟩
                            obtain ⟨cn, hcn⟩ : ∃ k, r.1.recs.length = k := ⟨_, rfl⟩
                            rw [hrn] at hvr
                            rw [hcn] at hvc
                            clear hrn hcn
                            subst hvr hvc
                            obtain ⟨re, hre⟩ : ∃ k, r.1.e = k := ⟨_, rfl⟩
                            obtain ⟨rm, hrm⟩ : ∃ k, r.1.n = k := ⟨_, rfl⟩
                            have HRE := Lib.hid hre
                            have HRM := Lib.hid hrm
                            rw [hre, hrm]
                            clear hre hrm
                            have hrb := HRb.out wj HXj.out
                            obtain ⟨⟨v0, z0⟩, ⟨v1, z1⟩, ⟨v2, z2⟩, ⟨v3, z3⟩, ⟨v4, z4⟩, ⟨v5, z5⟩, ⟨v6, z6⟩, ⟨v7, z7⟩⟩ := hrb.olds
                            have y0 := hrb.go 0
                            have y1 := hrb.go 1
                            have y2 := hrb.go 2
                            have y3 := hrb.go 3
                            have y4 := hrb.go 4
                            have y5 := hrb.go 5
                            have y6 := hrb.go 6
                            have y7 := hrb.go 7
                            clear hrb
                            go_wp2_with fail
                            refine bodyPost_ret (res_results rfl _ _ R re rm (.slice ra rn rc) (.slice ca cn cc) rfl ((HRb.out wj HXj.out).put re rm (.slice ra rn rc) (.slice ca cn cc))) rfl ?_
                            refine do_wrap HRES.out HRE.out HRM.out (HL.out re rm (.slice ra rn rc) (.slice ca cn cc)) HRR.out HCC.out
                          · skip
                            by_cases hk7 : o0 = 7
                            · subst hk7
                              have HLV := Lib.hid (M.check_lv HCK.out (show (7 : Int) ≠ 16 by decide))
                              have dk9 : decide ((7 : Int) = 9) = false := by decide
                              have ek9 : ((7 : Int) == 9) = false := by decide
                              have dk10 : decide ((7 : Int) = 10) = false := by decide
                              have ek10 : ((7 : Int) == 10) = false := by decide
                              have dk11 : decide ((7 : Int) = 11) = false := by decide
                              have ek11 : ((7 : Int) == 11) = false := by decide
                              have dk12 : decide ((7 : Int) = 12) = false := by decide
                              have ek12 : ((7 : Int) == 12) = false := by decide
                              have dk13 : decide ((7 : Int) = 13) = false := by decide
                              have ek13 : ((7 : Int) == 13) = false := by decide
                              have dk14 : decide ((7 : Int) = 14) = false := by decide
                              have ek14 : ((7 : Int) == 14) = false := by decide
                              have dk15 : decide ((7 : Int) = 15) = false := by decide
                              have ek15 : ((7 : Int) == 15) = false := by decide
                              have dk5 : decide ((7 : Int) = 5) = false := by decide
                              have ek5 : ((7 : Int) == 5) = false := by decide
                              have dk6 : decide ((7 : Int) = 6) = false := by decide
                              have ek6 : ((7 : Int) == 6) = false := by decide
                              have dk7 : decide ((7 : Int) = 7) = true := by decide
                              have ek7 : ((7 : Int) == 7) = true := by decide
                              have dk8 : decide ((7 : Int) = 8) = false := by decide
                              have ek8 : ((7 : Int) == 8) = false := by decide
                              have dk0 : decide ((7 : Int) = 0) = false := by decide
                              have ek0 : ((7 : Int) == 0) = false := by decide
                              have dk16 : decide ((7 : Int) = 16) = false := by decide
                              have ek16 : ((7 : Int) == 16) = false := by decide
                              have HRES : Hid (M.do_ us gs m ⟨7, o1, o2, o3, o4, o5, o6, o7, o8, o9, kk⟩ = M.write m ⟨7, o1, o2, o3, o4, o5, o6, o7, o8, o9, kk⟩) := by unfold Hid; rw [HDO.out 7 (by decide) (by decide) HCK.out]; simp [M.rest]
                              obtain ⟨r, hr⟩ : ∃ r, M.write m ⟨7, o1, o2, o3, o4, o5, o6, o7, o8, o9, kk⟩ = r := ⟨_, rfl⟩
                              obtain ⟨p0, p1, p2, p3, p4, p5, p6, p7, p8, p9, p10⟩ := HOP.out w4 HX.out
                              have HIN := Lib.hid ((write_any (fun k => G k ∨ k = R) w4 B n vn vu vq vg X m ⟨7, o1, o2, o3, o4, o5, o6, o7, o8, o9, kk⟩ u HM.out HLV.out.1 (by have := HLV.out.2; rw [HNN.out] at this; exact this) (Nat.le_trans (HFW.out.getD _) (by omega))).mono fun e w h => mut_do h (M.write_nil _ _).1 (M.write_nil _ _).2)
                              rw [hr] at HIN HRES
                              clear hr
                              go_wp2_with fail
                              refine HIN.out.mono ?_
                              rintro e wj ⟨X', vr, vc, rfl, hL, hR, hC⟩
                              obtain ⟨ra, rc, hvr, -⟩ := (hR.here).shape
                              obtain ⟨ca, cc, hvc, -⟩ := Sl.shape hC.here
                              have HXj : Hid (Ex (X.foot B) w2 wj) := HX.out.trans hL.ex
                              have HL := Lib.hid (hL.wrap HLT.out HXG.out HE.out.b HX.out HR2.out HR3.out)
                              have HRR := Lib.hid hR
                              have HCC := Lib.hid hC
                              clear HIN hL hR hC HM HX p0 p1 p2 p3 p4 p5 p6 p7 p8 p9 p10
                              obtain ⟨rn, hrn⟩ : ∃ k, r.1.rows.length = k := ⟨_, rfl⟩
                              obtain ⟨cn, hcn⟩ : ∃ k, r.1.recs.length = k := ⟨_, rfl⟩
                              rw [hrn] at hvr
                              rw [hcn] at hvc
                              clear hrn hcn
                              subst hvr hvc
                              obtain ⟨re, hre⟩ : ∃ k, r.1.e = k := ⟨_, rfl⟩
                              obtain ⟨rm, hrm⟩ : ∃ k, r.1.n = k := ⟨_, rfl⟩
                              have HRE := Lib.hid hre
                              have HRM := Lib.hid hrm
                              rw [hre, hrm]
                              clear hre hrm
                              have hrb := HRb.out wj HXj.out
                              obtain ⟨⟨v0, z0⟩, ⟨v1, z1⟩, ⟨v2, z2⟩, ⟨v3, z3⟩, ⟨v4, z4⟩, ⟨v5, z5⟩, ⟨v6, z6⟩, ⟨v7, z7⟩⟩ := hrb.olds
                              have y0 := hrb.go 0
                              have y1 := hrb.go 1
                              have y2 := hrb.go 2
                              have y3 := hrb.go 3
                              have y4 := hrb.go 4
                              have y5 := hrb.go 5
                              have y6 := hrb.go 6
                              have y7 := hrb.go 7
                              clear hrb
                              go_wp2_with fail
                              refine bodyPost_ret (res_results rfl _ _ R re rm (.slice ra rn rc) (.slice ca cn cc) rfl ((HRb.out wj HXj.out).put re rm (.slice ra rn rc) (.slice ca cn cc))) rfl ?_
                              refine do_wrap HRES.out HRE.out HRM.out (HL.out re rm (.slice ra rn rc) (.slice ca cn cc)) HRR.out HCC.out
                            · skip
                              by_cases hk8 : o0 = 8
                              · subst hk8
                                have HLV := Lib.hid (M.check_lv HCK.out (show (8 : Int) ≠ 16 by decide))
                                have dk9 : decide ((8 : Int) = 9) = false := by decide
                                have ek9 : ((8 : Int) == 9) = false := by decide
                                have dk10 : decide ((8 : Int) = 10) = false := by decide
                                have ek10 : ((8 : Int) == 10) = false := by decide
                                have dk11 : decide ((8 : Int) = 11) = false := by decide
                                have ek11 : ((8 : Int) == 11) = false := by decide
                                have dk12 : decide ((8 : Int) = 12) = false := by decide
                                have ek12 : ((8 : Int) == 12) = false := by decide
                                have dk13 : decide ((8 : Int) = 13) = false := by decide
                                have ek13 : ((8 : Int) == 13) = false := by decide
                                have dk14 : decide ((8 : Int) = 14) = false := by decide
                                have ek14 : ((8 : Int) == 14) = false := by decide
                                have dk15 : decide ((8 : Int) = 15) = false := by decide
                                have ek15 : ((8 : Int) == 15) = false := by decide
                                have dk5 : decide ((8 : Int) = 5) = false := by decide
                                have ek5 : ((8 : Int) == 5) = false := by decide
                                have dk6 : decide ((8 : Int) = 6) = false := by decide
                                have ek6 : ((8 : Int) == 6) = false := by decide
                                have dk7 : decide ((8 : Int) = 7) = false := by decide
                                have ek7 : ((8 : Int) == 7) = false := by decide
                                have dk8 : decide ((8 : Int) = 8) = true := by decide
                                have ek8 : ((8 : Int) == 8) = true := by decide
                                have dk0 : decide ((8 : Int) = 0) = false := by decide
                                have ek0 : ((8 : Int) == 0) = false := by decide
                                have dk16 : decide ((8 : Int) = 16) = false := by decide
                                have ek16 : ((8 : Int) == 16) = false := by decide
                                have HRES : Hid (M.do_ us gs m ⟨8, o1, o2, o3, o4, o5, o6, o7, o8, o9, kk⟩ = M.write m ⟨8, o1, o2, o3, o4, o5, o6, o7, o8, o9, kk⟩) := by unfold Hid; rw [HDO.out 8 (by decide) (by decide) HCK.out]; simp [M.rest]
                                obtain ⟨r, hr⟩ : ∃ r, M.write m ⟨8, o1, o2, o3, o4, o5, o6, o7, o8, o9, kk⟩ = r := ⟨_, rfl⟩
                                obtain ⟨p0, p1, p2, p3, p4, p5, p6, p7, p8, p9, p10⟩ := HOP.out w4 HX.out
                                have HIN := Lib.hid ((write_any (fun k => G k ∨ k = R) w4 B n vn vu vq vg X m ⟨8, o1, o2, o3, o4, o5, o6, o7, o8, o9, kk⟩ u HM.out HLV.out.1 (by have := HLV.out.2; rw [HNN.out] at this; exact this) (Nat.le_trans (HFW.out.getD _) (by omega))).mono fun e w h => mut_do h (M.write_nil _ _).1 (M.write_nil _ _).2)
                                rw [hr] at HIN HRES
                                clear hr
                                go_wp2_with fail
                                refine HIN.out.mono ?_
                                rintro e wj ⟨X', vr, vc, rfl, hL, hR, hC⟩
                                obtain ⟨ra, rc, hvr, -⟩ := (hR.here).shape
                                obtain ⟨ca, cc, hvc, -⟩ := Sl.shape hC.here
                                have HXj : Hid (Ex (X.foot B) w2 wj) := HX.out.trans hL.ex
                                have HL := Lib.hid (hL.wrap HLT.out HXG.out HE.out.b HX.out HR2.out HR3.out)
                                have HRR := Lib.hid hR
                                have HCC := Lib.hid hC
                                clear HIN hL hR hC HM HX p0 p1 p2 p3 p4 p5 p6 p7 p8 p9 p10
                                obtain ⟨rn, hrn⟩ : ∃ k, r.1.rows.length = k := ⟨_, rfl⟩
                                obtain ⟨cn, hcn⟩ : ∃ k, r.1.recs.length = k := ⟨_, rfl⟩
                                rw [hrn] at hvr
                                rw [hcn] at hvc
                                clear hrn hcn
                                subst hvr hvc
                                obtain ⟨re, hre⟩ : ∃ k, r.1.e = k := ⟨_, rfl⟩
                                obtain ⟨rm, hrm⟩ : ∃ k, r.1.n = k := ⟨_, rfl⟩
                                have HRE := Lib.hid hre
                                have HRM := Lib.hid hrm
                                rw [hre, hrm]
                                clear hre hrm
                                have hrb := HRb.out wj HXj.out
                                obtain ⟨⟨v0, z0⟩, ⟨v1, z1⟩, ⟨v2, z2⟩, ⟨v3, z3⟩, ⟨v4, z4⟩, ⟨v5, z5⟩, ⟨v6, z6⟩, ⟨v7, z7⟩⟩ := hrb.olds
                                have y0 := hrb.go 0
                                have y1 := hrb.go 1
                                have y2 := hrb.go 2
                                have y3 := hrb.go 3
                                have y4 := hrb.go 4
                                have y5 := hrb.go 5
                                have y6 := hrb.go 6
                                have y7 := hrb.go 7
                                clear hrb
                                go_wp2_with fail
                                refine bodyPost_ret (res_results rfl _ _ R re rm (.slice ra rn rc) (.slice ca cn cc) rfl ((HRb.out wj HXj.out).put re rm (.slice ra rn rc) (.slice ca cn cc))) rfl ?_
                                refine do_wrap HRES.out HRE.out HRM.out (HL.out re rm (.slice ra rn rc) (.slice ca cn cc)) HRR.out HCC.out
                              · skip
                                have HLV := Lib.hid (M.check_lv HCK.out hk16)
                                have dk9 : decide (o0 = 9) = false := by simp [hk9]
                                have ek9 : (o0 == 9) = false := by simp [hk9]
                                have dk10 : decide (o0 = 10) = false := by simp [hk10]
                                have ek10 : (o0 == 10) = false := by simp [hk10]
                                have dk11 : decide (o0 = 11) = false := by simp [hk11]
                                have ek11 : (o0 == 11) = false := by simp [hk11]
                                have dk12 : decide (o0 = 12) = false := by simp [hk12]
                                have ek12 : (o0 == 12) = false := by simp [hk12]
                                have dk13 : decide (o0 = 13) = false := by simp [hk13]
                                have ek13 : (o0 == 13) = false := by simp [hk13]
                                have dk14 : decide (o0 = 14) = false := by simp [hk14]
                                have ek14 : (o0 == 14) = false := by simp [hk14]
                                have dk15 : decide (o0 = 15) = false := by simp [hk15]
                                have ek15 : (o0 == 15) = false := by simp [hk15]
                                have dk5 : decide (o0 = 5) = false := by simp [hk5]
                                have ek5 : (o0 == 5) = false := by simp [hk5]
                                have dk6 : decide (o0 = 6) = false := by simp [hk6]
                                have ek6 : (o0 == 6) = false := by simp [hk6]
                                have dk7 : decide (o0 = 7) = false := by simp [hk7]
                                have ek7 : (o0 == 7) = false := by simp [hk7]
                                have dk8 : decide (o0 = 8) = false := by simp [hk8]
                                have ek8 : (o0 == 8) = false := by simp [hk8]
                                have dk0 : decide (o0 = 0) = false := by simp [hk0]
                                have ek0 : (o0 == 0) = false := by simp [hk0]
                                have dk16 : decide (o0 = 16) = false := by simp [hk16]
                                have ek16 : (o0 == 16) = false := by simp [hk16]
                                have HRES : Hid (M.do_ us gs m ⟨o0, o1, o2, o3, o4, o5, o6, o7, o8, o9, kk⟩ = M.txn m ⟨o0, o1, o2, o3, o4, o5, o6, o7, o8, o9, kk⟩) := by unfold Hid; rw [HDO.out o0 hk0 hk16 HCK.out]; simp [M.rest, hk9, hk10, hk11, hk12, hk13, hk14, hk15, hk5, hk6, hk7, hk8]
                                obtain ⟨r, hr⟩ : ∃ r, M.txn m ⟨o0, o1, o2, o3, o4, o5, o6, o7, o8, o9, kk⟩ = r := ⟨_, rfl⟩
                                obtain ⟨p0, p1, p2, p3, p4, p5, p6, p7, p8, p9, p10⟩ := HOP.out w4 HX.out
                                have HIN := Lib.hid ((txn_any (fun k => G k ∨ k = R) w4 B n vn vu vq vg X m ⟨o0, o1, o2, o3, o4, o5, o6, o7, o8, o9, kk⟩ u HM.out HLV.out.1 (by have := HLV.out.2; rw [HNN.out] at this; exact this) HSL.out).mono fun e w h => mut_do h (M.txn_nil _ _).1 (M.txn_nil _ _).2)
                                rw [hr] at HIN HRES
                                clear hr
                                go_wp2_with fail
                                refine HIN.out.mono ?_
                                rintro e wj ⟨X', vr, vc, rfl, hL, hR, hC⟩
                                obtain ⟨ra, rc, hvr, -⟩ := (hR.here).shape
                                obtain ⟨ca, cc, hvc, -⟩ := Sl.shape hC.here
                                have HXj : Hid (Ex (X.foot B) w2 wj) := HX.out.trans hL.ex
                                have HL := Lib.hid (hL.wrap HLT.out HXG.out HE.out.b HX.out HR2.out HR3.out)
                                have HRR := Lib.hid hR
                                have HCC := Lib.hid hC
                                clear HIN hL hR hC HM HX p0 p1 p2 p3 p4 p5 p6 p7 p8 p9 p10
                                obtain ⟨rn, hrn⟩ : ∃ k, r.1.rows.length = k := ⟨_, rfl⟩
                                obtain ⟨cn, hcn⟩ : ∃ k, r.1.recs.length = k := ⟨_, rfl⟩
                                rw [hrn] at hvr
                                rw [hcn] at hvc
                                clear hrn hcn
                                subst hvr hvc
                                obtain ⟨re, hre⟩ : ∃ k, r.1.e = k := ⟨_, rfl⟩
                                obtain ⟨rm, hrm⟩ : ∃ k, r.1.n = k := ⟨_, rfl⟩
                                have HRE := Lib.hid hre
                                have HRM := Lib.hid hrm
                                rw [hre, hrm]
                                clear hre hrm
                                have hrb := HRb.out wj HXj.out
                                obtain ⟨⟨v0, z0⟩, ⟨v1, z1⟩, ⟨v2, z2⟩, ⟨v3, z3⟩, ⟨v4, z4⟩, ⟨v5, z5⟩, ⟨v6, z6⟩, ⟨v7, z7⟩⟩ := hrb.olds
                                have y0 := hrb.go 0
                                have y1 := hrb.go 1
                                have y2 := hrb.go 2
                                have y3 := hrb.go 3
                                have y4 := hrb.go 4
                                have y5 := hrb.go 5
                                have y6 := hrb.go 6
                                have y7 := hrb.go 7
                                clear hrb
                                go_wp2_with fail
                                refine bodyPost_ret (res_results rfl _ _ R re rm (.slice ra rn rc) (.slice ca cn cc) rfl ((HRb.out wj HXj.out).put re rm (.slice ra rn rc) (.slice ca cn cc))) rfl ?_
                                refine do_wrap HRES.out HRE.out HRM.out (HL.out re rm (.slice ra rn rc) (.slice ca cn cc)) HRR.out HCC.out
end Go.Proofs.YtmapmeacjpoaoaaDoor
