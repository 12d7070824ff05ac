/- A slice of 64-bit numbers among the arguments of a row. No program. -/
import Derived.Test.YtljpfocmnppjgaaDoorRow
import Derived.Test.YtljpfocmnppjgaaDoorU64
namespace Go.Proofs.YtljpfocmnppjgaaDoor
open Go Go.RowKit Go.ChangeShapes Go.WideShapes Go.ChangeAt

theorem open_u64s_cs {H : Type} {enc : TypeId × Value → H} {P : Program} {W : World} {t e : TypeId} {fuel : Nat} {cs : List Value} {x : DataW H × List MemPlace} (ht : P.underlying t = some (.slice e)) (he : P.underlying e = some (.int .u64)) (hc : P.cellsOf e = 1)
    (hf : DataW.trod enc P W 0 (fun _ => true) true fuel t cs = some x) :
    ∃ (v : Value) (l : List Nat), cs = [v] ∧ Us W v l ∧ U64s l := by
  rcases open_ints ht he hc hf with ⟨hcs, hx⟩ | ⟨a, len, cap, zs, hcs, _, hl, hm, hz, hx, hcell, hwz⟩
  · rw [hcs]
    exact ⟨_, [], rfl, Us.nil _, fun x hx => by cases hx⟩
  · simp only [if_true] at hz
    rw [hcs]
    have hb : ∀ z ∈ zs, 0 ≤ z ∧ z ≤ 18446744073709551615 := fun z hz => by
      have := hwz z hz
      simpa [Lit.wf, IntKind.min, IntKind.max, IntKind.signed, IntKind.bits] using this
    refine ⟨_, (zs.take len).map Int.toNat, rfl, ?_, ?_⟩
    · unfold Us
      have e1 : ((zs.take len).map Int.toNat).length = len := by simp; omega
      have e2 : u64Cells ((zs.take len).map Int.toNat) = (zs.take len).map (Value.int .u64) := by
        unfold u64Cells
        rw [List.map_map]
        exact List.map_congr_left fun z hz => by
          have := hb z (List.mem_of_mem_take hz)
          simp only [Function.comp]; rw [Int.toNat_of_nonneg this.1]
      rw [e1, e2]
      refine ⟨by simp; omega, _, _, rfl, hl, hm, fun e => (by cases e), fun j hj => ?_⟩
      simp only [List.length_map, List.length_take] at hj
      have hcj := hcell j (by omega)
      obtain ⟨b, off, rfl, -⟩ := ints_at hcell (show 0 < zs.length by omega)
      refine ⟨b, off, rfl, ?_⟩
      rw [Addr.add_lit] at hcj
      rw [hcj]
      simp [List.getD_eq_getElem?_getD, show j < zs.length by omega]
    · intro x hx
      obtain ⟨z, hz, rfl⟩ := List.mem_map.1 hx
      have := hb z (List.mem_of_mem_take hz)
      omega

theorem open_u64s {H : Type} {enc : TypeId × Value → H} {P : Program} {W : World} {t e base : Nat} {v : Value} {d : DataW H} {ps : List MemPlace} (ht : P.underlying t = some (.slice e)) (he : P.underlying e = some (.int .u64)) (hc : P.cellsOf e = 1)
    (hok : Value.okWide P W .any base t v) (h : DataW.Trod enc P W 0 (fun _ => true) true t v d ps) :
    ∃ l : List Nat, Us W v l ∧ U64s l := by
  obtain ⟨a0, len0, cap0, rfl⟩ := okWide_slice ht hok
  obtain ⟨fuel, hf⟩ := h
  obtain ⟨v', l, e1, h1, h2⟩ := open_u64s_cs ht he hc hf
  simp only [Value.cells, List.cons.injEq, and_true] at e1
  subst e1
  exact ⟨l, h1, h2⟩
end Go.Proofs.YtljpfocmnppjgaaDoor
