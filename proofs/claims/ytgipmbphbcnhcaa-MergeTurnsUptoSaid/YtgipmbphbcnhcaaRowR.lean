/- Lists of rows of the store among the arguments of a law's row, and how many they are at most. -/
import Derived.Test.YtgipmbphbcnhcaaRow
import Derived.Test.YtgipmbphbcnhcaaRwUnion
import Derived.Deep.Slices
import Derived.Deep.Fields
import Derived.JoinedCond
namespace Go.Proofs.Ytgipmbphbcnhcaa
open Go Go.RowKit Go.ChangeShapes Go.WideShapes Go.ChangeAt

theorem add_at (b off k : Nat) : (⟨b, off, none⟩ : Addr).add k = ⟨b, off + k, none⟩ := Addr.add_lit b off k

theorem open_rws {H : Type} {enc : TypeId × Value → H} {P : Program} {W : World} {t e fuel : TypeId} {cs : List Value} {x : DataW H × List MemPlace} {f0 f1 f2 : Field} (ht : P.underlying t = some (.slice e)) (he : P.underlying e = some (.struct #[f0, f1, f2])) (hone : Deep.oneCellFields P #[f0, f1, f2] = true) (hC : P.cellsOf e = 3)
    (h0 : P.underlying f0.type = some .string) (h1 : P.underlying f1.type = some (.int .i64)) (h2 : P.underlying f2.type = some .string)
    (h : DataW.trod enc P W 0 (fun _ => true) true fuel t cs = some x) : ∃ (v : Value) (l : List Rw), cs = [v] ∧ Rs W v l ∧ l.length + 1 ≤ Rows.uptoBulk x.1 := by
  rcases Deep.open_slice ht h with ⟨rfl, rfl⟩ | ⟨a, len, cap, m, n, D, Pl, rfl, -, hl, hm, hmm, rfl, hi⟩
  · exact ⟨_, [], rfl, Three.Ss.nil _, by simp [Rows.uptoBulk]⟩
  · simp only [if_true] at hmm
    subst hmm
    have hex : ∀ i, i < len → ∃ g : Rw, W.cell? (a.add (i * 3)) = some (.string (str g.1)) ∧ W.cell? (a.add (i * 3 + 1)) = some (.int .i64 g.2.1) ∧ W.cell? (a.add (i * 3 + 2)) = some (.string (str g.2.2)) := fun i hil => by
      obtain ⟨cs', hc, htr⟩ := hi i (by omega)
      rw [hC] at hc
      obtain ⟨-, hlen, hat⟩ := World.cells?_some hc
      obtain ⟨xs, n', -, -, -, hxl, hfs⟩ := DataW.trod_struct he htr
      match cs', hlen with
      | [c0, c1, c2], _ =>
        obtain ⟨o0, k0⟩ := Deep.hone_of hone 0 f0 rfl
        obtain ⟨o1, k1⟩ := Deep.hone_of hone 1 f1 rfl
        obtain ⟨o2, k2⟩ := Deep.hone_of hone 2 f2 rfl
        match xs, hxl with
        | [y0, y1, y2], _ =>
          have q0 := hfs 0 f0 rfl
          have q1 := hfs 1 f1 rfl
          have q2 := hfs 2 f2 rfl
          rw [o0, k0] at q0
          rw [o1, k1] at q1
          rw [o2, k2] at q2
          obtain ⟨z0, e0, -, -⟩ := DataW.trod_string h0 (show DataW.trod enc P W 0 (fun _ => true) true n' f0.type [c0] = some y0 from q0)
          obtain ⟨z1, e1, -⟩ := DataW.trod_int h1 (show DataW.trod enc P W 0 (fun _ => true) true n' f1.type [c1] = some y1 from q1)
          obtain ⟨z2, e2, -, -⟩ := DataW.trod_string h2 (show DataW.trod enc P W 0 (fun _ => true) true n' f2.type [c2] = some y2 from q2)
          simp only [List.cons.injEq, and_true] at e0 e1 e2
          have r0 := hat 0 (by decide)
          have r1 := hat 1 (by decide)
          have r2 := hat 2 (by decide)
          rw [Deep.add_add] at r0 r1 r2
          exact ⟨(z0.data.toList, z1, z2.data.toList), by rw [show i * 3 = i * 3 + 0 by omega, r0, e0, str_of]; rfl, by rw [r1, e1]; rfl, by rw [r2, e2, str_of]; rfl⟩
    obtain ⟨F, hF⟩ := Deep.choose_lt hex
    have hll : ((List.range len).map F).length = len := by simp
    refine ⟨_, (List.range len).map F, rfl, ?_, ?_⟩
    · refine ⟨by rw [Three.cells_length], some a, m, by rw [hll], by rw [hll]; exact hl, hm, fun e => (by cases e), fun j hj => ?_⟩
      rw [Three.cells_length, hll] at hj
      obtain ⟨g0, g1, g2⟩ := hF (j / 3) (by omega)
      have gz := (hF 0 (by omega)).1
      obtain ⟨b, off, spot⟩ := a
      have hspot : spot = none := by simpa [Addr.add] using World.cell?_spot gz
      subst hspot
      refine ⟨b, off, rfl, ?_⟩
      rw [add_at] at g0 g1 g2
      obtain ⟨p0, p1, p2⟩ := RW.cells_at ((List.range len).map F) (j / 3) (by rw [hll]; omega)
      rw [List.getElem_map, List.getElem_range] at p0 p1 p2
      have hj3 : j = j / 3 * 3 + j % 3 := by omega
      have hlt : j % 3 < 3 := Nat.mod_lt _ (by decide)
      have key : ∀ k x, j = k → (RW.cells ((List.range len).map F))[k]? = some x → W.cell? ⟨b, off + k, none⟩ = some x → W.cell? ⟨b, off + j, none⟩ = some ((RW.cells ((List.range len).map F))[j]'(by rw [Three.cells_length, hll]; exact hj)) := fun k x e hx hw => by
        subst e
        obtain ⟨_, hx'⟩ := List.getElem?_eq_some_iff.1 hx
        rw [hw, hx']
      match hr : j % 3, hlt with
      | 0, _ => exact key _ _ (by omega) p0 g0
      | 1, _ => exact key _ _ (by omega) p1 g1
      | 2, _ => exact key _ _ (by omega) p2 g2
    · rw [hll]
      simp only [Rows.uptoBulk]
      have : ∀ l : List (DataW H), l.length ≤ Rows.uptoBulkAll l := by
        intro l
        induction l with
        | nil => simp [Rows.uptoBulkAll]
        | cons x r ih =>
          have h1 : 1 ≤ Rows.uptoBulk x := by
            cases x with
            | lit l => cases l <;> simp [Rows.uptoBulk]
            | nil => simp [Rows.uptoBulk]
            | ptr d => simp [Rows.uptoBulk]
            | slice elems spare => simp [Rows.uptoBulk]
            | agg parts => simp [Rows.uptoBulk]
            | iface t d => simp [Rows.uptoBulk]
            | map entries => simp [Rows.uptoBulk]
            | held h => simp [Rows.uptoBulk]
          simp only [Rows.uptoBulkAll, List.length_cons]
          omega
      have h1 := this ((List.range len).map D)
      simp only [List.length_map, List.length_range] at h1
      omega

theorem bulk_rows {H : Type} (F : Nat → List Rw) (D : Nat → DataW H) : ∀ xs : List Nat, (∀ i ∈ xs, (F i).length + 1 ≤ Rows.uptoBulk (D i)) → xs.length + (xs.map F).flatten.length ≤ Rows.uptoBulkAll (xs.map D)
  | [], _ => by simp [Rows.uptoBulkAll]
  | i :: xs, h => by
    have h1 := h i (List.mem_cons_self)
    have h2 := bulk_rows F D xs fun j hj => h j (List.mem_cons_of_mem _ hj)
    simp only [List.map_cons, List.flatten_cons, List.length_append, List.length_cons, Rows.uptoBulkAll]
    omega

theorem open_vs {H : Type} {enc : TypeId × Value → H} {P : Program} {W : World} {tt t e base : TypeId} {v : Value} {d : DataW H} {ps : List MemPlace} {f0 f1 f2 : Field} (htt : P.underlying tt = some (.slice t)) (hct : P.cellsOf t = 1) (ht : P.underlying t = some (.slice e)) (he : P.underlying e = some (.struct #[f0, f1, f2])) (hone : Deep.oneCellFields P #[f0, f1, f2] = true) (hC : P.cellsOf e = 3)
    (h0 : P.underlying f0.type = some .string) (h1 : P.underlying f1.type = some (.int .i64)) (h2 : P.underlying f2.type = some .string)
    (hok : Value.okWide P W .any base tt v) (h : DataW.Trod enc P W 0 (fun _ => true) true tt v d ps) : ∃ rows : List (List Rw), Vs W v rows ∧ rows.length + rows.flatten.length ≤ Rows.uptoBulk d := by
  obtain ⟨a0, len0, cap0, rfl⟩ := okWide_slice htt hok
  obtain ⟨fuel, hf⟩ := h
  rcases Deep.open_slice1 htt hct hf with ⟨hcs, hx⟩ | ⟨a, len, cap, m, n, V, D, Pl, hcs, -, hl, hm, hmm, hx, hi⟩
  · simp only [Value.cells, List.cons.injEq, and_true] at hcs
    rw [hcs]
    exact ⟨[], Vs.nil _, by simp⟩
  · simp only [if_true] at hmm
    simp only [Value.cells, List.cons.injEq, and_true] at hcs
    rw [hcs]
    subst hmm
    have hex : ∀ i, i < len → ∃ l : List Rw, Rs W (V i) l ∧ l.length + 1 ≤ Rows.uptoBulk (D i) := fun i hil => by
      obtain ⟨-, htr⟩ := hi i (by omega)
      obtain ⟨v', l, e1, h3, h4⟩ := open_rws ht he hone hC h0 h1 h2 htr
      simp only [List.cons.injEq, and_true] at e1
      subst e1
      exact ⟨l, h3, h4⟩
    obtain ⟨F, hF⟩ := Deep.choose_lt hex
    have hll : ((List.range len).map F).length = len := by simp
    refine ⟨(List.range len).map F, ⟨(List.range len).map V, ?_, fun i a b => ?_⟩, ?_⟩
    · refine ⟨by simp, some a, m, by rw [hll], by rw [hll]; exact hl, hm, fun e => (by cases e), fun j hj => ?_⟩
      simp only [List.length_map, List.length_range] at hj
      have gj := (hi j (by omega)).1
      have gz := (hi 0 (by omega)).1
      obtain ⟨b, off, spot⟩ := a
      have hspot : spot = none := by simpa [Addr.add] using World.cell?_spot gz
      subst hspot
      refine ⟨b, off, rfl, ?_⟩
      rw [add_at] at gj
      rw [gj]
      simp
    · simp only [List.getElem_map, List.getElem_range]
      exact (hF i (by simpa using a)).1
    · rw [(Prod.mk.inj hx).1]
      have := bulk_rows F D (List.range len) fun i hi => (hF i (List.mem_range.1 hi)).2
      simp only [List.length_range] at this
      simp only [Rows.uptoBulk, hll]
      omega
end Go.Proofs.Ytgipmbphbcnhcaa
