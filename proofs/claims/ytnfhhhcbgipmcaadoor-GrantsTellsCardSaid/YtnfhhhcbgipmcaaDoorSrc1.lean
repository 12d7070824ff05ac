/- What grants.below, slices.Clone and IndexFunc at grants, and the test 'does not fit' return. -/
import Derived.Test.YtnfhhhcbgipmcaaDoorSrcPlain
import Derived.Test.YtnfhhhcbgipmcaaDoorList
import Derived.Test.YtnfhhhcbgipmcaaDoorEq
import Derived.Test.YtnfhhhcbgipmcaaDoorGr3
namespace Go.Proofs.YtnfhhhcbgipmcaaDoor
open Go Go.RowKit

set_option maxHeartbeats 1000000 in
theorem below_any (v : Value) (us : List Nat) (x : Nat) (hx : x < 18446744073709551616) (w : World) (hv : Us w v us) (hu : U64s us) (ht : DTab w) :
    Calls Tryd.prog 72 #[v, .int .u64 x] w fun e w' => e = .returned (.int .u64 (L.belowB us x : Nat)) ∧ Below w.heap.size w w' := by
  obtain ⟨ao, cap, rfl, -⟩ := hv.shape
  have hbig := hv.len
  have HD := Lib.hid (fun (c : Int) (W : World) (hW : Below w.heap.size w W) => down_any _ us c W (hv.below hW) hu)
  have HLI := Lib.hid (list_any x hx w ht)
  have hdef : Hid (L.belowB us x = L.orDowns us (bitsOf x)) := rfl
  generalize L.belowB us x = res at *
  clear hv hu ht
  go_enter Tryd.func72, Tryd.ntmps72
  go_wp2_with fail
  refine HLI.out.mono ?_
  rintro e w1 ⟨v1, rfl, hown, hb1⟩
  have HI := Lib.hid (Is.of_owns hown)
  obtain ⟨ao1, cap1, rfl, -⟩ := HI.out.shape
  have hlen := HI.out.len
  obtain ⟨bs, hbs⟩ : ∃ bs, bitsOf x = bs := ⟨_, rfl⟩
  rw [hbs] at HI hlen hdef ⊢
  clear HLI hown hbs
  obtain ⟨N, hN⟩ : ∃ N, bs.length = N := ⟨_, rfl⟩
  have HN := Lib.hid hN
  rw [hN] at HI hlen ⊢
  clear hN
  go_wp2_with fail
  go_loopw [5, 11] (fun t i wr => ∃ k : Nat, k ≤ N ∧ i = .int .i64 k ∧ t = .int .u64 (L.orDowns us (bs.take k) : Nat) ∧ Below w.heap.size w wr ∧ Hid (Below w1.heap.size w1 wr)) (fun _ i _ => N - (intOf i).toNat)
  case atStart => exact ⟨0, by omega, rfl, rfl, hb1, Below.refl _ _⟩
  case round =>
    clear hb1
    obtain ⟨k, hk, rfl, rfl, hbr, hb1⟩ := hrel
    by_cases hkN : k < N
    · have hkl : k < bs.length := by have := HN.out; omega
      obtain ⟨b, off, rfl, hc⟩ := (HI.out.below hb1.out).at hkl
      replace hc := hc k hkl
      have hs : Hid (L.orDowns us (bs.take (k + 1)) = L.orDowns us (bs.take k) ||| L.down us (bs.getD k 0)) := by unfold Hid; rw [take_getD hkl, L.orDowns_snoc]
      obtain ⟨a, ha⟩ : ∃ a, bs.getD k 0 = a := ⟨_, rfl⟩
      rw [ha] at hc hs
      have h1 := L.orDowns_lt us (bs.take k)
      have h2 := L.down_lt us a
      have HDa := Lib.hid (HD.out a wr hbr)
      obtain ⟨p, hp⟩ : ∃ p, L.orDowns us (bs.take k) = p := ⟨_, rfl⟩
      obtain ⟨q, hq⟩ : ∃ q, L.down us a = q := ⟨_, rfl⟩
      rw [hp] at hs h1 ⊢
      rw [hq] at hs h2 HDa
      have hor := u64_or_nat p q h1 h2
      clear ha hp hq
      go_wp2_with fail
      refine HDa.out.mono ?_
      rintro e w' ⟨rfl, rfl⟩
      go_wp2_with fail
      go_roundw
      case rel => exact ⟨k + 1, by omega, by go_num, by rw [hs.out], hbr, hb1⟩
      case measure => simp [intOf]; omega
    · obtain rfl : k = N := by omega
      have hfin : Hid (L.orDowns us (bs.take k) = res) := by unfold Hid; rw [hdef.out, List.take_of_length_le (by have := HN.out; omega)]
      go_wp2_with fail
      go_ret
      exact ⟨by rw [hfin.out]; rfl, hbr⟩

theorem infoGr : (Tryd.prog.info? 47).map (fun i => (i.zero, i.size, i.bytes)) = some (some (.agg #[.int .i64 0, .int .i64 0, .int .i64 0]), 3, 24) := by kernel_rfl
theorem gr_oneCell (l : List Gr) : ∀ u ∈ GR.cells l, u.oneCell' = true := by
  intro u hu
  obtain ⟨g, -, h⟩ := List.mem_flatMap.1 hu
  simp only [List.mem_cons, List.not_mem_nil, or_false] at h
  rcases h with rfl | rfl | rfl <;> rfl

set_option maxHeartbeats 400000 in
theorem gclone_any (v : Value) (l : List Gr) (w : World) (h : Gs w v l) (hl : l.length ≤ 100000) :
    Calls Tryd.prog 70 #[v] w fun e w' => ∃ v', e = .returned v' ∧ w'.ownsRow w.heap.size 47 3 v' l.length (GR.cells l) ∧ Below w.heap.size w w' := by
  have q : ∀ (w : World) (a : Option Addr) (n c n' c' : Nat), (binOp .eql 44 (.slice a n c) (.slice none n' c')).run Tryd.prog w = .ok (.bool a.isNone) w := fun w a n c n' c' => Lib.run_eql_slice_nil w _ _ a n c n' c' Tryd.underlying44
  obtain ⟨-, ao, cap, rfl, -, -, hn, -⟩ := id h
  cases ao with
  | none =>
    obtain rfl := hn rfl
    obtain rfl : l = [] := by
      obtain ⟨_, ao, cap, e, hc, -⟩ := h
      obtain ⟨-, -, rfl⟩ := Value.slice.inj e
      exact List.eq_nil_of_length_eq_zero (by omega)
    go_enter Tryd.func70, Tryd.ntmps70
    go_wp2_with fail
    go_ret
    exact ⟨_, rfl, World.ownsRow_nil _ _ _ _, Below.refl _ _⟩
  | some a =>
    go_enter Tryd.func70, Tryd.ntmps70
    have hb0 : Below w.heap.size w (w.alloc (.cells #[] 47)) := (Below.refl _ _).alloc (Nat.le_refl _) _
    have hown0 := Lib.hid (World.ownsRow_made (base := w.heap.size) (e := 47) (size := 3) w #[] 0 (Nat.le_refl _) (Nat.zero_le _) rfl)
    go_wp2_with (at_builtin; go_must (refine wpList_append_sl rfl _ _ 44 rfl w.heap.size 47 _ 3 24 Tryd.underlying44 infoGr rfl (by decide) _ _ _ rfl hown0.out _ l.length (GR.cells l) rfl (h.below hb0) (gr_oneCell l) (by unfold maxLen; omega) (by omega) hb0.size ?_))
    intro v2 w2 hown2 hgrow _
    have hbel2 := hb0.grown hgrow hb0.size (ownBlock_ge hown0.out)
    try rw [Nat.zero_add, List.nil_append] at hown2
    have HO2 := Lib.hid hown2
    clear hown2 hgrow
    go_wp2_with fail
    go_ret
    exact ⟨_, rfl, HO2.out, hbel2⟩

/-- 'does not fit', over the rows in a box. -/
theorem unfit_any (B : Nat) (v : Value) (us : List Nat) (g : Gr) (w : World) (hB : w.heap[B]? = some (.cells #[v] 22 (0, 0))) (hv : Us w v us) (hu : U64s us) :
    Calls Tryd.prog 71 #[gv g, .pointer (some ⟨B, 0, none⟩)] w fun e w' => e = .returned (.bool (!L.fits us g)) ∧ Below w.heap.size w w' := by
  have hlt : B < w.heap.size := (Array.getElem?_eq_some_iff.1 hB).1
  obtain ⟨a0, a1, a2⟩ := g
  have hb1 := (Below.refl w.heap.size w).alloc (Nat.le_refl _) (.cells #[.int .i64 a0, .int .i64 a1, .int .i64 a2] 47)
  have HF := Lib.hid (fits_any v us (a0, a1, a2) _ (hv.below hb1) hu)
  have hcell : (w.alloc (.cells #[.int .i64 a0, .int .i64 a1, .int .i64 a2] 47)).cell? ⟨B, 0, none⟩ = some v := cell_of_row _ B 0 _ _ (0, 0) ((hb1.block B hlt).trans hB)
  replace hb1 := Lib.hid hb1
  obtain ⟨ao, cap, rfl, -⟩ := hv.shape
  generalize L.fits us (a0, a1, a2) = q at *
  clear hv hu hB
  go_enter Tryd.func71, Tryd.ntmps71
  go_wp2_with fail
  refine HF.out.mono ?_
  rintro e w2 ⟨rfl, hb⟩
  have hfin := Lib.hid (below_next hb1.out hb)
  clear hb hb1 HF hcell
  go_wp2_with fail
  go_ret
  exact ⟨rfl, hfin.out⟩
end Go.Proofs.YtnfhhhcbgipmcaaDoor
