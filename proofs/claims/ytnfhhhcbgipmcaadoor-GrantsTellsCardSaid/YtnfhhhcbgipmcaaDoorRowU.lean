/- A slice of 64-bit numbers among the arguments of a row. No program. -/
import Derived.Test.YtnfhhhcbgipmcaaDoorRow
import Derived.Test.YtnfhhhcbgipmcaaDoorU64
namespace Go.Proofs.YtnfhhhcbgipmcaaDoor
open Go Go.RowKit Go.ChangeShapes Go.WideShapes Go.ChangeAt

theorem open_u64s {H : Type} {enc : TypeId × Value → H} {P : Program} {W : World} {t e base : Nat} {v : Value} {d : DataW H} {ps : List MemPlace} (ht : P.underlying t = some (.slice e)) (he : P.underlying e = some (.int .u64)) (hc : P.cellsOf e = 1)
    (hok : Value.okWide P W .any base t v) (h : DataW.Trod enc P W 0 (fun _ => true) true t v d ps) :
    ∃ l : List Nat, Us W v l ∧ U64s l := by
  obtain ⟨a0, len0, cap0, rfl⟩ := okWide_slice ht hok
  obtain ⟨fuel, hf⟩ := h
  rcases open_ints ht he hc hf with ⟨hcs, hx⟩ | ⟨a, len, cap, zs, hcs, _, hl, hm, hz, hx, hcell, hwz⟩
  · simp only [Value.cells, List.cons.injEq, and_true] at hcs
    rw [hcs]
    exact ⟨[], Us.nil _, fun x hx => by cases hx⟩
  · simp only [if_true] at hz
    simp only [Value.cells, List.cons.injEq, and_true] at hcs
    rw [hcs]
    have hb : ∀ z ∈ zs, 0 ≤ z ∧ z ≤ 18446744073709551615 := fun z hz => by
      have := hwz z hz
      simpa [Lit.wf, IntKind.min, IntKind.max, IntKind.signed, IntKind.bits] using this
    refine ⟨(zs.take len).map Int.toNat, ?_, ?_⟩
    · unfold Us
      have e1 : ((zs.take len).map Int.toNat).length = len := by simp; omega
      have e2 : u64Cells ((zs.take len).map Int.toNat) = (zs.take len).map (Value.int .u64) := by
        unfold u64Cells
        rw [List.map_map]
        exact List.map_congr_left fun z hz => by
          have := hb z (List.mem_of_mem_take hz)
          simp only [Function.comp]; rw [Int.toNat_of_nonneg this.1]
      rw [e1, e2]
      refine ⟨by simp; omega, _, _, rfl, hl, hm, fun e => (by cases e), fun j hj => ?_⟩
      simp only [List.length_map, List.length_take] at hj
      have hcj := hcell j (by omega)
      obtain ⟨b, off, rfl, -⟩ := ints_at hcell (show 0 < zs.length by omega)
      refine ⟨b, off, rfl, ?_⟩
      rw [Addr.add_lit] at hcj
      rw [hcj]
      simp [List.getD_eq_getElem?_getD, show j < zs.length by omega]
    · intro x hx
      obtain ⟨z, hz, rfl⟩ := List.mem_map.1 hx
      have := hb z (List.mem_of_mem_take hz)
      omega
end Go.Proofs.YtnfhhhcbgipmcaaDoor
