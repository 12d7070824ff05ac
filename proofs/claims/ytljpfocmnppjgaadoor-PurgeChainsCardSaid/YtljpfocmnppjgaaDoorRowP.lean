/- A configuration, and operations, among the arguments of a row. -/
import Derived.Test.YtljpfocmnppjgaaDoorRowU
import Derived.Test.YtljpfocmnppjgaaDoorRowG
import Derived.Test.YtljpfocmnppjgaaDoorOp14
namespace Go.Proofs.YtljpfocmnppjgaaDoor
open Go Go.RowKit Go.ChangeShapes Go.WideShapes Go.ChangeAt

section
variable {H : Type} {enc : TypeId × Value → H} {P : Program} {W : World}

theorem sl_of {C : List Value} {a : Addr} {len cap : Nat} (hC : C.length = len) (hl : len ≤ cap) (hm : cap ≤ maxLen) (h : ∀ i (hi : i < C.length), W.cell? (a.add i) = some C[i]) : Sl W 1 len (.slice (some a) len cap) C := by
  refine ⟨by omega, some a, cap, rfl, hl, hm, fun e => (by cases e), fun j hj => ?_⟩
  have gz := h 0 (by omega)
  have gj := h j hj
  obtain ⟨b, off, spot⟩ := a
  have hspot : spot = none := by simpa [Addr.add] using World.cell?_spot gz
  subst hspot
  rw [add_plain] at gj
  exact ⟨b, off, rfl, gj⟩

theorem open_ks {t e : TypeId} {fuel : Nat} {cs : List Value} {x : DataW H × List MemPlace} (ht : P.underlying t = some (.slice e)) (he : P.underlying e = some .string) (hc : P.cellsOf e = 1)
    (h : DataW.trod enc P W 0 (fun _ => true) true fuel t cs = some x) : ∃ (v : Value) (l : List (List UInt8)), cs = [v] ∧ Ks W v l := by
  rcases Deep.open_slice1 ht hc h with ⟨rfl, -⟩ | ⟨a, len, cap, m, n, V, D, Pl, rfl, -, hl, hm, hmm, -, hi⟩
  · exact ⟨_, [], rfl, Ks.nil _⟩
  · simp only [if_true] at hmm
    subst hmm
    have hex : ∀ i, i < len → ∃ g : List UInt8, W.cell? (a.add i) = some (.string (str g)) := fun i hil => by
      obtain ⟨h1, h2⟩ := hi i (by omega)
      obtain ⟨z, e1, -, -⟩ := DataW.trod_string he h2
      simp only [List.cons.injEq, and_true] at e1
      exact ⟨z.data.toList, by rw [h1, e1, str_of]⟩
    obtain ⟨F, hF⟩ := Deep.choose_lt hex
    refine ⟨_, (List.range len).map F, rfl, ?_⟩
    unfold Ks
    have hll : ((List.range len).map F).length = len := by simp
    rw [hll]
    refine sl_of (by simp [strCells]) hl hm fun i hi => ?_
    rw [strCells_length, hll] at hi
    rw [hF i hi]
    simp [strCells]

theorem open_zs {t e : TypeId} {fuel : Nat} {cs : List Value} {x : DataW H × List MemPlace} (ht : P.underlying t = some (.slice e)) (he : P.underlying e = some (.int .i64)) (hc : P.cellsOf e = 1)
    (h : DataW.trod enc P W 0 (fun _ => true) true fuel t cs = some x) : ∃ (v : Value) (l : List Int), cs = [v] ∧ Zs W v l := by
  rcases Deep.open_slice1 ht hc h with ⟨rfl, -⟩ | ⟨a, len, cap, m, n, V, D, Pl, rfl, -, hl, hm, hmm, -, hi⟩
  · exact ⟨_, [], rfl, Sl.nil _ 1⟩
  · simp only [if_true] at hmm
    subst hmm
    have hex : ∀ i, i < len → ∃ g : Int, W.cell? (a.add i) = some (.int .i64 g) := fun i hil => by
      obtain ⟨h1, h2⟩ := hi i (by omega)
      obtain ⟨z, e1, -⟩ := DataW.trod_int he h2
      simp only [List.cons.injEq, and_true] at e1
      exact ⟨z, by rw [h1, e1]⟩
    obtain ⟨F, hF⟩ := Deep.choose_lt hex
    refine ⟨_, (List.range len).map F, rfl, ?_⟩
    unfold Zs
    have hll : ((List.range len).map F).length = len := by simp
    rw [hll]
    refine sl_of (by simp) hl hm fun i hi => ?_
    rw [List.length_map, hll] at hi
    rw [hF i hi]
    simp

theorem trod_slice_shape {t e : TypeId} {fuel : Nat} {cs : List Value} {x : DataW H × List MemPlace} (ht : P.underlying t = some (.slice e)) (h : DataW.trod enc P W 0 (fun _ => true) true fuel t cs = some x) : ∃ ao n c, cs = [.slice ao n c] := by
  rcases Deep.open_slice ht h with ⟨rfl, -⟩ | ⟨a, len, cap, m, n, D, Pl, rfl, -⟩
  · exact ⟨_, _, _, rfl⟩
  · exact ⟨_, _, _, rfl⟩

theorem okWide_slice_mk {t e : TypeId} {fuel : Nat} {v : Value} {x : DataW H × List MemPlace} (ht : P.underlying t = some (.slice e)) (h : DataW.trod enc P W 0 (fun _ => true) true fuel t [v] = some x) : ∃ ao n c, v = .slice ao n c ∧ DataW.Trod enc P W 0 (fun _ => true) true t v x.1 x.2 := by
  obtain ⟨ao, n, c, e1⟩ := trod_slice_shape ht h
  simp only [List.cons.injEq, and_true] at e1
  subst e1
  exact ⟨_, _, _, rfl, fuel, h⟩

set_option maxHeartbeats 1000000 in
theorem open_ops {t e ek : TypeId} {fuel : Nat} {cs : List Value} {x : DataW H × List MemPlace} {f0 f1 f2 f3 f4 f5 f6 f7 f8 f9 f10 : Field} (ht : P.underlying t = some (.slice e)) (he : P.underlying e = some (.struct #[f0, f1, f2, f3, f4, f5, f6, f7, f8, f9, f10])) (hone : Deep.oneCellFields P #[f0, f1, f2, f3, f4, f5, f6, f7, f8, f9, f10] = true) (hC : P.cellsOf e = 11)
    (h0 : P.underlying f0.type = some (.int .i64)) (h1 : P.underlying f1.type = some (.int .i64)) (h2 : P.underlying f2.type = some (.int .i64)) (h3 : P.underlying f3.type = some (.int .i64)) (h4 : P.underlying f4.type = some .string) (h5 : P.underlying f5.type = some .string) (h6 : P.underlying f6.type = some .string) (h7 : P.underlying f7.type = some (.int .i64)) (h8 : P.underlying f8.type = some (.int .i64)) (h9 : P.underlying f9.type = some (.int .i64)) (h10 : P.underlying f10.type = some (.slice ek)) (hek : P.underlying ek = some .string) (hck : P.cellsOf ek = 1)
    (h : DataW.trod enc P W 0 (fun _ => true) true fuel t cs = some x) : ∃ (v : Value) (l : List Opr), cs = [v] ∧ Os W v l := by
  rcases Deep.open_slice ht h with ⟨rfl, -⟩ | ⟨a, len, cap, m, n, D, Pl, rfl, -, hl, hm, hmm, -, hi⟩
  · exact ⟨_, [], rfl, Os.nil _⟩
  · simp only [if_true] at hmm
    subst hmm
    have hex : ∀ i, i < len → ∃ g : Opr × Value, W.cell? (a.add (i * 11)) = some (.int .i64 g.1.kind) ∧ W.cell? (a.add (i * 11 + 1)) = some (.int .i64 g.1.level) ∧ W.cell? (a.add (i * 11 + 2)) = some (.int .i64 g.1.ses) ∧ W.cell? (a.add (i * 11 + 3)) = some (.int .i64 g.1.snap) ∧ W.cell? (a.add (i * 11 + 4)) = some (.string (str g.1.bucket)) ∧ W.cell? (a.add (i * 11 + 5)) = some (.string (str g.1.key)) ∧ W.cell? (a.add (i * 11 + 6)) = some (.string (str g.1.val)) ∧ W.cell? (a.add (i * 11 + 7)) = some (.int .i64 g.1.label) ∧ W.cell? (a.add (i * 11 + 8)) = some (.int .i64 g.1.to) ∧ W.cell? (a.add (i * 11 + 9)) = some (.int .i64 g.1.n) ∧ W.cell? (a.add (i * 11 + 10)) = some g.2 ∧ Ks W g.2 g.1.keep := fun i hil => by
      obtain ⟨cs', hc, htr⟩ := hi i (by omega)
      rw [hC] at hc
      obtain ⟨-, hlen, hat⟩ := World.cells?_some hc
      obtain ⟨xs, n', -, -, -, hxl, hfs⟩ := DataW.trod_struct he htr
      match cs', hlen with
      | [c0, c1, c2, c3, c4, c5, c6, c7, c8, c9, c10], _ =>
        obtain ⟨o0, k0⟩ := Deep.hone_of hone 0 f0 rfl
        obtain ⟨o1, k1⟩ := Deep.hone_of hone 1 f1 rfl
        obtain ⟨o2, k2⟩ := Deep.hone_of hone 2 f2 rfl
        obtain ⟨o3, k3⟩ := Deep.hone_of hone 3 f3 rfl
        obtain ⟨o4, k4⟩ := Deep.hone_of hone 4 f4 rfl
        obtain ⟨o5, k5⟩ := Deep.hone_of hone 5 f5 rfl
        obtain ⟨o6, k6⟩ := Deep.hone_of hone 6 f6 rfl
        obtain ⟨o7, k7⟩ := Deep.hone_of hone 7 f7 rfl
        obtain ⟨o8, k8⟩ := Deep.hone_of hone 8 f8 rfl
        obtain ⟨o9, k9⟩ := Deep.hone_of hone 9 f9 rfl
        obtain ⟨o10, k10⟩ := Deep.hone_of hone 10 f10 rfl
        match xs, hxl with
        | [y0, y1, y2, y3, y4, y5, y6, y7, y8, y9, y10], _ =>
          have q0 := hfs 0 f0 rfl
          rw [o0, k0] at q0
          have q1 := hfs 1 f1 rfl
          rw [o1, k1] at q1
          have q2 := hfs 2 f2 rfl
          rw [o2, k2] at q2
          have q3 := hfs 3 f3 rfl
          rw [o3, k3] at q3
          have q4 := hfs 4 f4 rfl
          rw [o4, k4] at q4
          have q5 := hfs 5 f5 rfl
          rw [o5, k5] at q5
          have q6 := hfs 6 f6 rfl
          rw [o6, k6] at q6
          have q7 := hfs 7 f7 rfl
          rw [o7, k7] at q7
          have q8 := hfs 8 f8 rfl
          rw [o8, k8] at q8
          have q9 := hfs 9 f9 rfl
          rw [o9, k9] at q9
          have q10 := hfs 10 f10 rfl
          rw [o10, k10] at q10
          obtain ⟨z0, e0, -⟩ := DataW.trod_int h0 (show DataW.trod enc P W 0 (fun _ => true) true n' f0.type [c0] = some y0 from q0)
          simp only [List.cons.injEq, and_true] at e0
          subst e0
          obtain ⟨z1, e1, -⟩ := DataW.trod_int h1 (show DataW.trod enc P W 0 (fun _ => true) true n' f1.type [c1] = some y1 from q1)
          simp only [List.cons.injEq, and_true] at e1
          subst e1
          obtain ⟨z2, e2, -⟩ := DataW.trod_int h2 (show DataW.trod enc P W 0 (fun _ => true) true n' f2.type [c2] = some y2 from q2)
          simp only [List.cons.injEq, and_true] at e2
          subst e2
          obtain ⟨z3, e3, -⟩ := DataW.trod_int h3 (show DataW.trod enc P W 0 (fun _ => true) true n' f3.type [c3] = some y3 from q3)
          simp only [List.cons.injEq, and_true] at e3
          subst e3
          obtain ⟨z4, e4, -, -⟩ := DataW.trod_string h4 (show DataW.trod enc P W 0 (fun _ => true) true n' f4.type [c4] = some y4 from q4)
          simp only [List.cons.injEq, and_true] at e4
          subst e4
          obtain ⟨z5, e5, -, -⟩ := DataW.trod_string h5 (show DataW.trod enc P W 0 (fun _ => true) true n' f5.type [c5] = some y5 from q5)
          simp only [List.cons.injEq, and_true] at e5
          subst e5
          obtain ⟨z6, e6, -, -⟩ := DataW.trod_string h6 (show DataW.trod enc P W 0 (fun _ => true) true n' f6.type [c6] = some y6 from q6)
          simp only [List.cons.injEq, and_true] at e6
          subst e6
          obtain ⟨z7, e7, -⟩ := DataW.trod_int h7 (show DataW.trod enc P W 0 (fun _ => true) true n' f7.type [c7] = some y7 from q7)
          simp only [List.cons.injEq, and_true] at e7
          subst e7
          obtain ⟨z8, e8, -⟩ := DataW.trod_int h8 (show DataW.trod enc P W 0 (fun _ => true) true n' f8.type [c8] = some y8 from q8)
          simp only [List.cons.injEq, and_true] at e8
          subst e8
          obtain ⟨z9, e9, -⟩ := DataW.trod_int h9 (show DataW.trod enc P W 0 (fun _ => true) true n' f9.type [c9] = some y9 from q9)
          simp only [List.cons.injEq, and_true] at e9
          subst e9
          obtain ⟨z10, kk, e10, hkk⟩ := open_ks h10 hek hck (show DataW.trod enc P W 0 (fun _ => true) true n' f10.type [c10] = some y10 from q10)
          simp only [List.cons.injEq, and_true] at e10
          subst e10
          have r0 := hat 0 (by decide)
          have r1 := hat 1 (by decide)
          have r2 := hat 2 (by decide)
          have r3 := hat 3 (by decide)
          have r4 := hat 4 (by decide)
          have r5 := hat 5 (by decide)
          have r6 := hat 6 (by decide)
          have r7 := hat 7 (by decide)
          have r8 := hat 8 (by decide)
          have r9 := hat 9 (by decide)
          have r10 := hat 10 (by decide)
          rw [Deep.add_add] at r0 r1 r2 r3 r4 r5 r6 r7 r8 r9 r10
          exact ⟨(⟨z0, z1, z2, z3, z4.data.toList, z5.data.toList, z6.data.toList, z7, z8, z9, kk⟩, c10), by rw [show i * 11 = i * 11 + 0 by omega, r0]; rfl, by rw [r1]; rfl, by rw [r2]; rfl, by rw [r3]; rfl, by rw [r4, str_of]; rfl, by rw [r5, str_of]; rfl, by rw [r6, str_of]; rfl, by rw [r7]; rfl, by rw [r8]; rfl, by rw [r9]; rfl, by rw [r10]; rfl, hkk⟩
    haveI : Inhabited (Opr × Value) := ⟨(⟨0, 0, 0, 0, [], [], [], 0, 0, 0, []⟩, .int .i64 0)⟩
    obtain ⟨F, hF⟩ := Deep.choose_lt hex
    refine ⟨_, (List.range len).map fun i => (F i).1, rfl, (List.range len).map fun i => (F i).2, by simp, ?_, fun i a b => ?_⟩
    · have hz : List.zipWith Op11.put ((List.range len).map fun i => (F i).1) ((List.range len).map fun i => (F i).2) = (List.range len).map fun i => (F i).1.put (F i).2 := by
        rw [List.zipWith_map]; simp [List.zipWith_self]
      have hll : ((List.range len).map fun i => (F i).1).length = len := by simp
      rw [hz, hll]
      have hzl : ((List.range len).map fun i => (F i).1.put (F i).2).length = len := by simp
      refine ⟨by rw [opCells_length, hzl], some a, _, rfl, hl, hm, fun e => (by cases e), fun j hj => ?_⟩
      have hj' := hj
      rw [opCells_length, hzl] at hj
      obtain ⟨g0, g1, g2, g3, g4, g5, g6, g7, g8, g9, g10, -⟩ := hF (j / 11) (by omega)
      have gz := (hF 0 (by omega)).1
      obtain ⟨b, off, spot⟩ := a
      have hspot : spot = none := by simpa [Addr.add] using World.cell?_spot gz
      subst hspot
      refine ⟨b, off, rfl, ?_⟩
      rw [add_plain] at g0 g1 g2 g3 g4 g5 g6 g7 g8 g9 g10
      have hj11 : j = j / 11 * 11 + j % 11 := by omega
      have hlt : j % 11 < 11 := Nat.mod_lt _ (by decide)
      have hat := fun k hk => opCells_at ((List.range len).map fun i => (F i).1.put (F i).2) (j / 11) (by rw [hzl]; omega) k hk
      simp only [List.getElem_map, List.getElem_range] at hat
      have key : ∀ k x, j = j / 11 * 11 + k → k < 11 → ((F (j / 11)).1.put (F (j / 11)).2).cs[k]? = some x → W.cell? ⟨b, off + (j / 11 * 11 + k), none⟩ = some x → W.cell? ⟨b, off + j, none⟩ = some ((opCells ((List.range len).map fun i => (F i).1.put (F i).2))[j]'hj') := fun k x e hk hx hw => by
        have h1 := hat k hk
        rw [← e, hx] at h1
        obtain ⟨_, hx'⟩ := List.getElem?_eq_some_iff.1 h1
        rw [hx']
        rw [← e] at hw
        exact hw
      match hr : j % 11, hlt with
      | 0, _ => exact key 0 _ (by omega) (by decide) rfl g0
      | 1, _ => exact key 1 _ (by omega) (by decide) rfl g1
      | 2, _ => exact key 2 _ (by omega) (by decide) rfl g2
      | 3, _ => exact key 3 _ (by omega) (by decide) rfl g3
      | 4, _ => exact key 4 _ (by omega) (by decide) rfl g4
      | 5, _ => exact key 5 _ (by omega) (by decide) rfl g5
      | 6, _ => exact key 6 _ (by omega) (by decide) rfl g6
      | 7, _ => exact key 7 _ (by omega) (by decide) rfl g7
      | 8, _ => exact key 8 _ (by omega) (by decide) rfl g8
      | 9, _ => exact key 9 _ (by omega) (by decide) rfl g9
      | 10, _ => exact key 10 _ (by omega) (by decide) rfl g10
    · have ha : i < len := by simpa using a
      have := (hF i ha)
      simp only [List.getElem_map, List.getElem_range]
      exact this.2.2.2.2.2.2.2.2.2.2.2

theorem open_ops_v {t e ek base : TypeId} {v : Value} {d : DataW H} {ps : List MemPlace} {f0 f1 f2 f3 f4 f5 f6 f7 f8 f9 f10 : Field} (ht : P.underlying t = some (.slice e)) (he : P.underlying e = some (.struct #[f0, f1, f2, f3, f4, f5, f6, f7, f8, f9, f10])) (hone : Deep.oneCellFields P #[f0, f1, f2, f3, f4, f5, f6, f7, f8, f9, f10] = true) (hC : P.cellsOf e = 11)
    (h0 : P.underlying f0.type = some (.int .i64)) (h1 : P.underlying f1.type = some (.int .i64)) (h2 : P.underlying f2.type = some (.int .i64)) (h3 : P.underlying f3.type = some (.int .i64)) (h4 : P.underlying f4.type = some .string) (h5 : P.underlying f5.type = some .string) (h6 : P.underlying f6.type = some .string) (h7 : P.underlying f7.type = some (.int .i64)) (h8 : P.underlying f8.type = some (.int .i64)) (h9 : P.underlying f9.type = some (.int .i64)) (h10 : P.underlying f10.type = some (.slice ek)) (hek : P.underlying ek = some .string) (hck : P.cellsOf ek = 1)
    (hok : Value.okWide P W .any base t v) (h : DataW.Trod enc P W 0 (fun _ => true) true t v d ps) : ∃ l : List Opr, Os W v l := by
  obtain ⟨a0, len0, cap0, rfl⟩ := okWide_slice ht hok
  obtain ⟨fuel, hf⟩ := h
  obtain ⟨v', l, e1, h1⟩ := open_ops ht he hone hC h0 h1 h2 h3 h4 h5 h6 h7 h8 h9 h10 hek hck hf
  simp only [Value.cells, List.cons.injEq, and_true] at e1
  subst e1
  exact ⟨l, h1⟩

set_option maxHeartbeats 1000000 in
theorem open_conf {t en eu eq eg base : TypeId} {v : Value} {d : DataW H} {ps : List MemPlace} {f0 f1 f2 f3 k0 k1 k2 : Field} (ht : P.underlying t = some (.struct #[f0, f1, f2, f3])) (hone : Deep.oneCellFields P #[f0, f1, f2, f3] = true) (hC : P.cellsOf t = 4)
    (hn : P.underlying f0.type = some (.slice en)) (hen : P.underlying en = some .string) (hcn : P.cellsOf en = 1)
    (hu : P.underlying f1.type = some (.slice eu)) (heu : P.underlying eu = some (.int .u64)) (hcu : P.cellsOf eu = 1)
    (hq : P.underlying f2.type = some (.slice eq)) (heq : P.underlying eq = some (.int .i64)) (hcq : P.cellsOf eq = 1)
    (hg : P.underlying f3.type = some (.slice eg)) (heg : P.underlying eg = some (.struct #[k0, k1, k2])) (hkone : Deep.oneCellFields P #[k0, k1, k2] = true) (hcg : P.cellsOf eg = 3)
    (hk0 : P.underlying k0.type = some (.int .i64)) (hk1 : P.underlying k1.type = some (.int .i64)) (hk2 : P.underlying k2.type = some (.int .i64))
    (hok : Value.okWide P W .any base t v) (h : DataW.Trod enc P W 0 (fun _ => true) true t v d ps) :
    ∃ vn vu vq vg ns us qs gs, v = cfv vn vu vq vg ∧ Cf W vn vu vq vg ns us qs gs := by
  obtain ⟨⟨cs⟩, rfl, hcs⟩ := okWide_struct ht hok
  obtain ⟨fuel, hf⟩ := h
  obtain ⟨xs, n', -, -, -, hxl, hfs⟩ := DataW.trod_struct ht hf
  rw [hC] at hcs
  match cs, hcs with
  | [c0, c1, c2, c3], _ =>
    match xs, hxl with
    | [y0, y1, y2, y3], _ =>
      obtain ⟨o0, l0⟩ := Deep.hone_of hone 0 f0 rfl
      obtain ⟨o1, l1⟩ := Deep.hone_of hone 1 f1 rfl
      obtain ⟨o2, l2⟩ := Deep.hone_of hone 2 f2 rfl
      obtain ⟨o3, l3⟩ := Deep.hone_of hone 3 f3 rfl
      have q0 := hfs 0 f0 rfl
      have q1 := hfs 1 f1 rfl
      have q2 := hfs 2 f2 rfl
      have q3 := hfs 3 f3 rfl
      rw [o0, l0] at q0
      rw [o1, l1] at q1
      rw [o2, l2] at q2
      rw [o3, l3] at q3
      replace q0 : DataW.trod enc P W 0 (fun _ => true) true n' f0.type [c0] = some y0 := q0
      replace q1 : DataW.trod enc P W 0 (fun _ => true) true n' f1.type [c1] = some y1 := q1
      replace q2 : DataW.trod enc P W 0 (fun _ => true) true n' f2.type [c2] = some y2 := q2
      replace q3 : DataW.trod enc P W 0 (fun _ => true) true n' f3.type [c3] = some y3 := q3
      obtain ⟨vn, ns, e0, h0⟩ := open_ks hn hen hcn q0
      obtain ⟨vu, us, e1, h1, h1'⟩ := open_u64s_cs hu heu hcu q1
      obtain ⟨vq, qs, e2, h2⟩ := open_zs hq heq hcq q2
      obtain ⟨vg, gs, e3, h3⟩ := open_grs_cs hg heg hkone hcg hk0 hk1 hk2 q3
      simp only [List.cons.injEq, and_true] at e0 e1 e2 e3
      subst e0 e1 e2 e3
      exact ⟨_, _, _, _, ns, us, qs, gs, rfl, h0, h1, h1', h2, h3⟩
end
end Go.Proofs.YtljpfocmnppjgaaDoor
