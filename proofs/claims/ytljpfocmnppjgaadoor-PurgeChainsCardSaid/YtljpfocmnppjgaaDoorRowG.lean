/- A slice of grants among the arguments of a row. -/
import Derived.Test.YtljpfocmnppjgaaDoorRow
import Derived.Test.YtljpfocmnppjgaaDoorGr2
import Derived.Deep.Slices
import Derived.Deep.Fields
namespace Go.Proofs.YtljpfocmnppjgaaDoor
open Go Go.RowKit Go.ChangeShapes Go.WideShapes Go.ChangeAt

theorem open_grs_cs {H : Type} {enc : TypeId × Value → H} {P : Program} {W : World} {t e : TypeId} {fuel : Nat} {cs : List Value} {x : DataW H × List MemPlace} {f0 f1 f2 : Field} (ht : P.underlying t = some (.slice e)) (he : P.underlying e = some (.struct #[f0, f1, f2])) (hone : Deep.oneCellFields P #[f0, f1, f2] = true) (hC : P.cellsOf e = 3)
    (h0 : P.underlying f0.type = some (.int .i64)) (h1 : P.underlying f1.type = some (.int .i64)) (h2 : P.underlying f2.type = some (.int .i64))
    (hf : DataW.trod enc P W 0 (fun _ => true) true fuel t cs = some x) : ∃ (v : Value) (l : List Gr), cs = [v] ∧ Gs W v l := by
  rcases Deep.open_slice ht hf with ⟨hcs, -⟩ | ⟨a, len, cap, m, n, D, Pl, hcs, -, hl, hm, hmm, -, hi⟩
  · rw [hcs]
    exact ⟨_, [], rfl, Three.Ss.nil _⟩
  · simp only [if_true] at hmm
    rw [hcs]
    subst hmm
    have hex : ∀ i, i < len → ∃ g : Gr, W.cell? (a.add (i * 3)) = some (.int .i64 g.1) ∧ W.cell? (a.add (i * 3 + 1)) = some (.int .i64 g.2.1) ∧ W.cell? (a.add (i * 3 + 2)) = some (.int .i64 g.2.2) := fun i hil => by
      obtain ⟨cs', hc, htr⟩ := hi i (by omega)
      rw [hC] at hc
      obtain ⟨-, hlen, hat⟩ := World.cells?_some hc
      obtain ⟨xs, n', -, -, -, hxl, hfs⟩ := DataW.trod_struct he htr
      match cs', hlen with
      | [c0, c1, c2], _ =>
        obtain ⟨o0, k0⟩ := Deep.hone_of hone 0 f0 rfl
        obtain ⟨o1, k1⟩ := Deep.hone_of hone 1 f1 rfl
        obtain ⟨o2, k2⟩ := Deep.hone_of hone 2 f2 rfl
        match xs, hxl with
        | [y0, y1, y2], _ =>
          have q0 := hfs 0 f0 rfl
          have q1 := hfs 1 f1 rfl
          have q2 := hfs 2 f2 rfl
          rw [o0, k0] at q0
          rw [o1, k1] at q1
          rw [o2, k2] at q2
          obtain ⟨z0, e0, -⟩ := DataW.trod_int h0 (show DataW.trod enc P W 0 (fun _ => true) true n' f0.type [c0] = some y0 from q0)
          obtain ⟨z1, e1, -⟩ := DataW.trod_int h1 (show DataW.trod enc P W 0 (fun _ => true) true n' f1.type [c1] = some y1 from q1)
          obtain ⟨z2, e2, -⟩ := DataW.trod_int h2 (show DataW.trod enc P W 0 (fun _ => true) true n' f2.type [c2] = some y2 from q2)
          simp only [List.cons.injEq, and_true] at e0 e1 e2
          have r0 := hat 0 (by decide)
          have r1 := hat 1 (by decide)
          have r2 := hat 2 (by decide)
          rw [Deep.add_add] at r0 r1 r2
          exact ⟨(z0, z1, z2), by rw [show i * 3 = i * 3 + 0 by omega, r0, e0]; rfl, by rw [r1, e1]; rfl, by rw [r2, e2]; rfl⟩
    obtain ⟨F, hF⟩ := Deep.choose_lt hex
    refine ⟨_, (List.range len).map F, rfl, ?_⟩
    have hll : ((List.range len).map F).length = len := by simp
    refine ⟨by rw [Three.cells_length], some a, m, by rw [hll], by rw [hll]; exact hl, hm, fun e => (by cases e), fun j hj => ?_⟩
    rw [Three.cells_length, hll] at hj
    obtain ⟨g0, g1, g2⟩ := hF (j / 3) (by omega)
    have gz := (hF 0 (by omega)).1
    obtain ⟨b, off, spot⟩ := a
    have hspot : spot = none := by simpa [Addr.add] using World.cell?_spot gz
    subst hspot
    refine ⟨b, off, rfl, ?_⟩
    rw [add_plain] at g0 g1 g2
    obtain ⟨p0, p1, p2⟩ := GR.cells_at ((List.range len).map F) (j / 3) (by rw [hll]; omega)
    rw [List.getElem_map, List.getElem_range] at p0 p1 p2
    have hj3 : j = j / 3 * 3 + j % 3 := by omega
    have hlt : j % 3 < 3 := Nat.mod_lt _ (by decide)
    have key : ∀ k x, j = k → (GR.cells ((List.range len).map F))[k]? = some x → W.cell? ⟨b, off + k, none⟩ = some x → W.cell? ⟨b, off + j, none⟩ = some ((GR.cells ((List.range len).map F))[j]'(by rw [Three.cells_length, hll]; exact hj)) := fun k x e hx hw => by
      subst e
      obtain ⟨_, hx'⟩ := List.getElem?_eq_some_iff.1 hx
      rw [hw, hx']
    match hr : j % 3, hlt with
    | 0, _ => exact key _ _ (by omega) p0 g0
    | 1, _ => exact key _ _ (by omega) p1 g1
    | 2, _ => exact key _ _ (by omega) p2 g2

theorem open_grs {H : Type} {enc : TypeId × Value → H} {P : Program} {W : World} {t e base : Nat} {v : Value} {d : DataW H} {ps : List MemPlace} {f0 f1 f2 : Field} (ht : P.underlying t = some (.slice e)) (he : P.underlying e = some (.struct #[f0, f1, f2])) (hone : Deep.oneCellFields P #[f0, f1, f2] = true) (hC : P.cellsOf e = 3)
    (h0 : P.underlying f0.type = some (.int .i64)) (h1 : P.underlying f1.type = some (.int .i64)) (h2 : P.underlying f2.type = some (.int .i64))
    (hok : Value.okWide P W .any base t v) (h : DataW.Trod enc P W 0 (fun _ => true) true t v d ps) : ∃ l : List Gr, Gs W v l := by
  obtain ⟨a0, len0, cap0, rfl⟩ := okWide_slice ht hok
  obtain ⟨fuel, hf⟩ := h
  obtain ⟨v', l, e1, h1⟩ := open_grs_cs ht he hone hC h0 h1 h2 hf
  simp only [Value.cells, List.cons.injEq, and_true] at e1
  subst e1
  exact ⟨l, h1⟩
end Go.Proofs.YtljpfocmnppjgaaDoor
