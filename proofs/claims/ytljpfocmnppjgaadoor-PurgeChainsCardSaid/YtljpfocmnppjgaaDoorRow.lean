/- From a walk to what a law's row asks: the result is true, the arguments read as they did, nothing that was there has turned. -/
import Derived.Test.YtljpfocmnppjgaaDoorRows
import Derived.Test.YtljpfocmnppjgaaDoorBase
import Derived.ProofKit
import Derived.OpenShut
import Derived.Deep.DeepHandedRow
namespace Go.Proofs.YtljpfocmnppjgaaDoor
open Go Go.RowKit Go.ChangeShapes Go.WideShapes Go.ChangeAt

theorem trodAll_below {H : Type} {enc : TypeId × Value → H} {P : Program} (hl : laidOutB P = true) {W W' : World} (hb : Below W.heap.size W W') :
    ∀ (ts : List TypeId) (vs : List Value) (ds : List (DataW H)) (ps : List MemPlace), (∀ t ∈ ts, P.readableRec t = true ∧ t < P.types.size) →
      DataW.TrodAll enc P W 0 (fun _ => true) true ts vs ds ps → (∀ x ∈ ps, x.block < W.heap.size) →
      DataW.TrodAll enc P W' 0 (fun b => decide (b < W.heap.size)) true ts vs ds ps
  | [], [], [], _, _, h, _ => h
  | [], _ :: _, _, _, _, h, _ => h.elim
  | [], [], _ :: _, _, _, h, _ => h.elim
  | _ :: _, [], _, _, _, h, _ => h.elim
  | _ :: _, _ :: _, [], _, _, h, _ => h.elim
  | t :: ts, v :: vs, d :: ds, ps, ht, h, hlt => by
    obtain ⟨p, q, h1, h2, rfl⟩ := h
    exact ⟨p, q, Below.trod hl (ht t (by simp)).1 (ht t (by simp)).2 h1 hb (fun x hx => hlt x (List.mem_append_left _ hx)),
      trodAll_below hl hb ts vs ds q (fun t' h' => ht t' (by simp [h'])) h2 (fun x hx => hlt x (List.mem_append_right _ hx)), rfl⟩

theorem law_post {H : Type} {enc : TypeId × Value → H} {P : Program} (hl : laidOutB P = true) {f : Func} {s : ChangeSpec} {W W' : World} {args : Array Value} {ds gs : List (DataW H)} {before : List MemPlace} {tb : TypeId}
    (hvs : s.vars = []) (hts : ∀ t ∈ f.params.toList, P.readableRec t = true ∧ t < P.types.size) (hrt : f.resultTypes = #[tb]) (htb : P.underlying tb = some .bool)
    (hW : DataW.Whole enc P f.params.toList s.vars false W args.toList ds gs before) (hb : Below W.heap.size W W')
    (hr : (s.fn H (ds ++ gs)).results = [.lit (.bool true)]) (ha : (s.fn H (ds ++ gs)).args = ds) (hv : (s.fn H (ds ++ gs)).vars = []) :
    s.post enc P f false true false false W args (.bool true) W' := by
  have hlt : ∀ p ∈ before, p.block < W.heap.size := fun p hp => by simpa using hW.lt p hp
  have hW' := hW
  obtain ⟨p, q, hA, hV, rfl, -, -⟩ := hW
  rw [hvs] at hV
  obtain ⟨rfl, rfl⟩ := trodVars_none hV
  refine ⟨ds, [], _, [], p, [], hW', ?_, ?_, ?_, hb.frame _, fun h => by cases h⟩
  · rw [hr, hrt]
    exact trodAll_cons_mk (p := []) (shut_bool htb true) trodAll_mk0
  · rw [ha]
    exact trodAll_below hl hb _ _ _ _ hts hA (fun x hx => hlt x (by simpa using hx))
  · rw [hv, hvs]
    rfl

/-- A slice of bytes among the arguments. -/
theorem open_bytes {H : Type} {enc : TypeId × Value → H} {P : Program} {W : World} {t e base : Nat} {v : Value} {d : DataW H} {ps : List MemPlace} (ht : P.underlying t = some (.slice e)) (he : P.underlying e = some (.int .u8)) (hc : P.cellsOf e = 1)
    (hok : Value.okWide P W .any base t v) (h : DataW.Trod enc P W 0 (fun _ => true) true t v d ps) :
    ∃ l : List UInt8, Bs W v l ∧ ((d = .nil ∧ l = []) ∨ ∃ sp, d = .slice (l.map fun c => .lit (.int .u8 c.toNat)) sp) := by
  obtain ⟨a0, len0, cap0, rfl⟩ := okWide_slice ht hok
  obtain ⟨fuel, hf⟩ := h
  rcases open_ints ht he hc hf with ⟨hcs, hx⟩ | ⟨a, len, cap, zs, hcs, _, hl, hm, hz, hx, hcell, hwz⟩
  · simp only [Value.cells, List.cons.injEq, and_true] at hcs
    rw [hcs]
    exact ⟨[], Bs.nil _, .inl ⟨(Prod.mk.inj hx).1, rfl⟩⟩
  · simp only [if_true] at hz
    simp only [Value.cells, List.cons.injEq, and_true] at hcs
    rw [hcs]
    have hb : ∀ z ∈ zs, 0 ≤ z ∧ z ≤ 255 := fun z hz => by
      have := hwz z hz
      simpa [Lit.wf, IntKind.min, IntKind.max, IntKind.signed, IntKind.bits] using this
    have hroom : ∀ z ∈ zs, (((UInt8.ofNat z.toNat).toNat : Nat) : Int) = z := fun z hz => by
      have := hb z hz
      rw [UInt8.toNat_ofNat']
      omega
    refine ⟨(zs.take len).map (fun z => UInt8.ofNat z.toNat), ?_, .inr ⟨lits .u8 (zs.drop len), ?_⟩⟩
    · unfold Bs
      have e1 : ((zs.take len).map (fun z => UInt8.ofNat z.toNat)).length = len := by simp; omega
      have e2 : byteCells ((zs.take len).map (fun z => UInt8.ofNat z.toNat)) = (zs.take len).map (Value.int .u8) := by
        unfold byteCells
        rw [List.map_map]
        exact List.map_congr_left fun z hz => by simp only [Function.comp]; rw [hroom z (List.mem_of_mem_take hz)]
      rw [e1, e2]
      refine ⟨by simp; omega, _, _, rfl, hl, hm, fun e => (by cases e), fun j hj => ?_⟩
      simp only [List.length_map, List.length_take] at hj
      have hcj := hcell j (by omega)
      obtain ⟨b, off, rfl, -⟩ := ints_at hcell (show 0 < zs.length by omega)
      refine ⟨b, off, rfl, ?_⟩
      rw [Addr.add_lit] at hcj
      rw [hcj]
      simp [List.getD_eq_getElem?_getD, show j < zs.length by omega]
    · rw [(Prod.mk.inj hx).1]
      congr 1
      unfold lits
      rw [List.map_map]
      exact List.map_congr_left fun z hz => by simp only [Function.comp]; rw [hroom z (List.mem_of_mem_take hz)]
end Go.Proofs.YtljpfocmnppjgaaDoor
