/- What slices.IndexFunc and DeleteFunc at grants return, with the test 'does not fit'. -/
import Derived.Test.YtnfhhhcbgipmcaaDoorSrc1
import Derived.Lib.SliceRun
import Derived.Laws.IdiomCopy
import Derived.BigFrame
namespace Go.Proofs.YtnfhhhcbgipmcaaDoor
open Go Go.RowKit

/-- The test, in every world that has grown above base. -/
def Tests (w : World) (base B : Nat) (p : Gr → Bool) : Prop := ∀ W, Below base w W → ∀ g : Gr, Calls Tryd.prog 71 #[gv g, .pointer (some ⟨B, 0, none⟩)] W fun e w' => e = .returned (.bool (p g)) ∧ Below W.heap.size W w'
theorem Tests.later {w w' : World} {base B : Nat} {p : Gr → Bool} (h : Tests w base B p) (hb : Below base w w') : Tests w' base B p := fun W hW g => h W (hb.trans hW) g
/-- The first that is met, or -1. -/
def Met (l : List Gr) (p : Gr → Bool) (r : Int) : Prop := (r = -1 ∧ ∀ i (_ : i < l.length), p l[i] = false) ∨ ∃ k : Nat, r = k ∧ ∃ h : k < l.length, p l[k] = true ∧ ∀ i (_ : i < l.length), i < k → p l[i] = false

set_option maxHeartbeats 1000000 in
theorem gindexFunc_any (v : Value) (l : List Gr) (B : Nat) (p : Gr → Bool) (w : World) (h : Gs w v l) (hf : Tests w w.heap.size B p) :
    Calls Tryd.prog 82 #[v, .func (.func 71) #[] #[.pointer (some ⟨B, 0, none⟩)]] w fun e w' => ∃ r : Int, e = .returned (.int .i64 r) ∧ Met l p r ∧ Below w.heap.size w w' := by
  have hbig := h.len
  obtain ⟨ao, cap, rfl, -⟩ := h.shape
  have HB := Lib.hid h
  have HF := Lib.hid hf
  clear h hf
  obtain ⟨N, hN⟩ : ∃ N, l.length = N := ⟨_, rfl⟩
  have HN := Lib.hid hN
  rw [hN] at hbig HB ⊢
  clear hN
  go_enter Tryd.func82, Tryd.ntmps82
  go_wp2_with fail
  go_loopw [8] (fun i wr => ∃ k : Nat, k ≤ N ∧ i = .int .i64 k ∧ Hid (∀ i (_ : i < l.length), i < k → p l[i] = false) ∧ Below w.heap.size w wr) (fun i _ => N - (intOf i).toNat)
  case atStart => exact ⟨0, by omega, rfl, fun i _ hi => absurd hi (Nat.not_lt_zero _), Below.refl _ _⟩
  case round =>
    obtain ⟨k, hk, rfl, hno, hbr⟩ := hrel
    by_cases hkN : k < N
    · have hkl : k < l.length := by have := HN.out; omega
      obtain ⟨b, off, rfl, hc⟩ := Gs.at3 (Three.Ss.below HB.out hbr) hkl
      obtain ⟨p0, p1, p2⟩ := hc k hkl
      have HFk := Lib.hid (HF.out wr hbr l[k])
      have hyes : Hid (p l[k] = true → Met l p k) := fun h => .inr ⟨k, rfl, hkl, h, hno.out⟩
      have hnext : Hid (p l[k] = false → ∀ i (_ : i < l.length), i < k + 1 → p l[i] = false) := fun h i hi hik => by
        by_cases e : i = k
        · subst e; exact h
        · exact hno.out i hi (by omega)
      obtain ⟨y, hy⟩ : ∃ y, l[k] = y := ⟨_, rfl⟩
      rw [hy] at p0 p1 p2 HFk hyes hnext
      clear hy hno hc hkl
      obtain ⟨y0, y1, y2⟩ := y
      simp only [] at p0 p1 p2
      cases he : p (y0, y1, y2) with
      | true =>
        rw [he] at HFk
        replace hyes := Lib.hid (hyes.out he)
        clear hnext he
        go_wp2_with fail
        refine HFk.out.mono ?_
        rintro e w1 ⟨rfl, hb⟩
        have hb1 := below_next hbr hb
        clear hb HFk p0 p1 p2
        go_wp2_with fail
        go_ret
        exact ⟨_, rfl, hyes.out, hb1⟩
      | false =>
        rw [he] at HFk
        replace hnext := Lib.hid (hnext.out he)
        clear hyes he
        go_wp2_with fail
        refine HFk.out.mono ?_
        rintro e w1 ⟨rfl, hb⟩
        have hb1 := below_next hbr hb
        clear hb HFk p0 p1 p2
        go_wp2_with fail
        go_roundw
        case rel => exact ⟨k + 1, by omega, by go_num, hnext, hb1⟩
        case measure => simp [intOf]; omega
    · have hfin : Hid (Met l p (-1)) := .inl ⟨rfl, fun i hi => hno.out i hi (by have := HN.out; omega)⟩
      go_wp2_with fail
      go_ret
      exact ⟨_, rfl, hfin.out, hbr⟩

theorem below_setCells {base b : Nat} (hb : base ≤ b) {w : World} : ∀ (vs : List Value) (o : Nat) (w' : World), Below base w w' → Below base w (w'.setCells b o vs)
  | [], _, _, h => h
  | v :: vs, o, w', h => by rw [World.setCells]; exact below_setCells hb vs (o + 1) _ (h.setCell hb _)

/-- 'clear' of n > 0 structs of three cells. -/
theorem run_clear3 {P : Program} (w : World) (t e : TypeId) (z0 z1 z2 : Value) (ht : P.underlying t = some (.slice e)) (hv : ∀ w, (zeroValue e).run P w = .ok (.agg #[z0, z1, z2]) w) (h0 : z0.oneCell' = true) (h1 : z1.oneCell' = true) (h2 : z2.oneCell' = true) (b o n c : Nat) (hn : 0 < n)
    (hc : ∀ j, j < n * 3 → (w.cell? ⟨b, o + j, none⟩).isSome = true) (hf : ∀ j, j < n * 3 → w.frozen? ⟨b, o + j, none⟩ = false) :
    ∃ zs : List Value, ∀ ty, (Builtin.clear_ #[t] ty #[.slice (some ⟨b, o, none⟩) n c]).run P w = .ok (.tuple #[]) (w.setCells b o zs) := by
  have hlen : (Builtin.zeroCells #[z0, z1, z2] n).toList.length = n * 3 := by simp [Builtin.zeroCells]
  refine ⟨(Builtin.zeroCells #[z0, z1, z2] n).toList, fun ty => ?_⟩
  have hone : ∀ v ∈ (Builtin.zeroCells #[z0, z1, z2] n).toList, v.oneCell' = true := by
    intro v hv
    simp only [Builtin.zeroCells, Array.toList_map, Array.toList_range, List.mem_map] at hv
    obtain ⟨i, -, rfl⟩ := hv
    have : i % 3 < 3 := Nat.mod_lt _ (by decide)
    show (#[z0, z1, z2][i % 3]!).oneCell' = true
    match h : i % 3, this with
    | 0, _ => exact h0
    | 1, _ => exact h1
    | 2, _ => exact h2
  have hst := run_storeCells_cells (P := P) b o (Builtin.zeroCells #[z0, z1, z2] n).toList 0 w (by rw [hlen]; simpa using hc) (by rw [hlen]; simpa using hf) hone
  simp only [Nat.add_zero] at hst
  obtain ⟨m, rfl⟩ : ∃ m, n = m + 1 := ⟨n - 1, by omega⟩
  have hz : (Value.agg #[z0, z1, z2]).cells = #[z0, z1, z2] := rfl
  simp [Builtin.clear_, run_underlying ht, hv, hz, hst]
end Go.Proofs.YtnfhhhcbgipmcaaDoor
