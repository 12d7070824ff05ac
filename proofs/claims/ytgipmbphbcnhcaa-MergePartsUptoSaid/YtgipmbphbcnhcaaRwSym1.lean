/- What slices.symMergeCmpFunc leaves, one row ahead. Printed by mksym.py. -/
import Derived.Test.YtgipmbphbcnhcaaRwIns
namespace Go.Proofs.Ytgipmbphbcnhcaa
open Go Go.RowKit

namespace S
theorem take_lt {B : List Rw} (hB : Sorted B) {h : Nat} (hh : h < B.length) {x : Rw} (hx : rlt B[h] x = true) : ∀ v ∈ B.take (h + 1), rlt v x = true := by
  intro v hv
  obtain ⟨i, hi, rfl⟩ := List.getElem_of_mem hv
  rw [List.length_take] at hi
  rw [List.getElem_take]
  exact lt_of_not_lt (sorted_get hB (by omega) hh) hx
theorem drop_not {B : List Rw} (hB : Sorted B) {h : Nat} (hh : h < B.length) {x : Rw} (hx : rlt B[h] x = false) : ∀ v ∈ B.drop h, rlt v x = false := by
  intro v hv
  obtain ⟨i, hi, rfl⟩ := List.getElem_of_mem hv
  rw [List.length_drop] at hi
  rw [List.getElem_drop, Bool.eq_false_iff]
  intro hlt
  have := lt_of_not_lt (sorted_get hB (i := h) (j := h + i) (by omega) (by omega)) hlt
  rw [hx] at this
  cases this
end S
/-- Two rows of an own row. -/
theorem Own.pair {W : World} {base g n cap : Nat} {l : List Rw} (h : Own W base g n cap l) {i j : Nat} {x y : Rw} (hi : l[i]? = some x) (hj : l[j]? = some y) :
    (W.cell? ⟨g, i * 3, none⟩ = some (.string (str x.1)) ∧ W.cell? ⟨g, i * 3 + 1, none⟩ = some (.int .i64 x.2.1) ∧ W.cell? ⟨g, i * 3 + 2, none⟩ = some (.string (str x.2.2)))
    ∧ (W.cell? ⟨g, j * 3, none⟩ = some (.string (str y.1)) ∧ W.cell? ⟨g, j * 3 + 1, none⟩ = some (.int .i64 y.2.1) ∧ W.cell? ⟨g, j * 3 + 2, none⟩ = some (.string (str y.2.2))) := by
  obtain ⟨hi', ei⟩ := List.getElem?_eq_some_iff.1 hi
  obtain ⟨hj', ej⟩ := List.getElem?_eq_some_iff.1 hj
  have h1 := h.cell i hi'
  have h2 := h.cell j hj'
  rw [ei] at h1
  rw [ej] at h2
  exact ⟨h1, h2⟩

set_option maxRecDepth 8000 in
set_option maxHeartbeats 8000000 in
theorem sym_left (w : World) (base g n cap a m b : Nat) (P : List Rw) (x : Rw) (B T : List Rw) (hbase : base ≤ g) (hs : n ≤ 1000000) (hown : Own w base g n cap (P ++ (x :: (B ++ T)))) (ha : P.length = a) (hm : a + 1 = m) (hb : m + B.length = b) (hB : S.Sorted B) :
    Calls Try.prog 25 #[.slice (some ⟨g, 0, none⟩) n cap, .int .i64 a, .int .i64 m, .int .i64 b, cmpV] w fun e w' => e = .returned (.tuple #[]) ∧ (∃ C, S.IsSort (x :: B) C ∧ Own w' base g n cap (P ++ (C ++ T))) ∧ Below base w w' := by
  have hn := hown.len
  have HO := Lib.hid hown
  simp only [List.length_append, List.length_cons] at hn
  have HA := Lib.hid (And.intro ha (And.intro hb hB))
  have hbn : b ≤ n := by omega
  have hmb : m ≤ b := by omega
  clear hown ha hb hn hB
  go_enter Try.func25, Try.ntmps25
  have f0 : IntKind.i64.wrap ((m : Int) - (a : Int)) = 1 := by rw [IntKind.wrap_i64] <;> omega
  go_wp2_with fail
  go_loopw [10, 11] (fun u v wr => ∃ (i j : Nat), u = .int .i64 i ∧ v = .int .i64 j ∧ m ≤ i ∧ i ≤ j ∧ j ≤ b ∧ Hid ((∀ v ∈ B.take (i - m), S.rlt v x = true) ∧ ∀ v ∈ B.drop (j - m), S.rlt v x = false) ∧ Hid (Own wr base g n cap (P ++ (x :: (B ++ T)))) ∧ Hid (Below base w wr)) (fun u v _ => (intOf v).toNat - (intOf u).toNat)
  case atStart => exact ⟨m, b, rfl, rfl, by omega, by omega, by omega, ⟨by simp, by rw [List.drop_of_length_le (by have := HA.out.2.1; omega)]; simp⟩, HO, Below.refl _ _⟩
  case round =>
    obtain ⟨i, j, rfl, rfl, hmi, hij, hjb, HI, hr, hbr⟩ := hrel
    clear HO
    by_cases hlt : i < j
    · have hlt' : (i : Int) < (j : Int) := by omega
      obtain ⟨h, hh⟩ : ∃ h, (i + j) / 2 = h := ⟨_, rfl⟩
      have f1 : IntKind.i64.wrap ((i : Int) + (j : Int)) = (i : Int) + (j : Int) := by rw [IntKind.wrap_i64] <;> omega
      have f2 : ((i : Int) + (j : Int)) / 2 = (h : Int) := by omega
      have f3 : IntKind.i64.wrap ((h : Int) + 1) = ((h + 1 : Nat) : Int) := by rw [IntKind.wrap_i64] <;> omega
      have hhB : h - m < B.length := by have := HA.out.2.1; omega
      obtain ⟨y, hy⟩ : ∃ y, B[h - m]'hhB = y := ⟨_, rfl⟩
      have HL : Hid ((P ++ (x :: (B ++ T)))[h]? = some y ∧ (P ++ (x :: (B ++ T)))[a]? = some x) := by
        have h1 := HA.out.1
        refine ⟨?_, ?_⟩
        · rw [List.getElem?_append_right (by omega), show h - P.length = (h - m) + 1 by omega, List.getElem?_cons_succ, List.getElem?_append_left hhB, List.getElem?_eq_getElem hhB, hy]
        · rw [List.getElem?_append_right (by omega), show a - P.length = 0 by omega]; rfl
      have hy := Lib.hid hy
      have i1 : (h : Int) < (n : Int) := by omega
      have i2 : (a : Int) < (n : Int) := by omega
      have i3 : (0 : Int) ≤ (h : Int) := by omega
      have i4 : (0 : Int) ≤ (a : Int) := by omega
      have HR : S.rlt y x = decide (S.rcmp y x < 0) := rfl
      have HC : Hid (∀ W, Calls Try.prog 15 #[.agg #[.string (str y.1), .int .i64 y.2.1, .string (str y.2.2)], .agg #[.string (str x.1), .int .i64 x.2.1, .string (str x.2.2)]] W fun e w' => e = .returned (.int .i64 (S.rcmp y x)) ∧ Ext W w') := fun W => rcmp_any y x W
      generalize S.rcmp y x = r at *
      have HR := Lib.hid HR
      go_wp2_with fail
      refine wp_region_mix ext_grow [(0, false), (1, false), (2, false), (3, false), (4, false), (5, false), (6, false), (7, false), (8, false), (9, false), (10, false)] (by kernel_rfl) (by kernel_rfl) ?_
      have hr4 : Hid (Own wr.drew base g n cap (P ++ (x :: (B ++ T)))) := World.ownsRow.drew hr.out
      have hb4 : Hid (Below base w wr.drew) := hbr.out.drew
      clear hr hbr 
      generalize wr.drew = w0 at *
      have q0 : ∀ z : Later w0, z.1.cell? ⟨g, h * 3, none⟩ = some (.string (str y.1)) := fun z => ((Own.pair (ownsRow.below hr4.out z.2) HL.out.1 HL.out.2).1).1
      have q1 : ∀ z : Later w0, z.1.cell? ⟨g, h * 3 + 1, none⟩ = some (.int .i64 y.2.1) := fun z => ((Own.pair (ownsRow.below hr4.out z.2) HL.out.1 HL.out.2).1).2.1
      have q2 : ∀ z : Later w0, z.1.cell? ⟨g, h * 3 + 2, none⟩ = some (.string (str y.2.2)) := fun z => ((Own.pair (ownsRow.below hr4.out z.2) HL.out.1 HL.out.2).1).2.2
      have p0 : ∀ z : Later w0, z.1.cell? ⟨g, a * 3, none⟩ = some (.string (str x.1)) := fun z => ((Own.pair (ownsRow.below hr4.out z.2) HL.out.1 HL.out.2).2).1
      have p1 : ∀ z : Later w0, z.1.cell? ⟨g, a * 3 + 1, none⟩ = some (.int .i64 x.2.1) := fun z => ((Own.pair (ownsRow.below hr4.out z.2) HL.out.1 HL.out.2).2).2.1
      have p2 : ∀ z : Later w0, z.1.cell? ⟨g, a * 3 + 2, none⟩ = some (.string (str x.2.2)) := fun z => ((Own.pair (ownsRow.below hr4.out z.2) HL.out.1 HL.out.2).2).2.2
      by_cases hlr : r < 0
      · have HR' : Hid (S.rlt y x = true) := by unfold Hid; rw [HR.out]; simpa using hlr
        clear HR
        repeat (refine mix_soft rfl (fun K hK => ?_); go_simp; (first | (refine hK _ ?_; clear hK K) | (apply Exists.intro; refine ⟨fun x => ?_, hK _ ?_⟩; (first | (go_at_call 15; with_reducible exact HC.out _)); clear hK K)))
        clear p0 p1 p2 q0 q1 q2 HC
        refine mix_done fun w4 hb5 => ?_
        obtain ⟨hr5, hb6⟩ := hr4.out.go hb5
        have hr5 := Lib.hid hr5
        have hb7 := Lib.hid (hb4.out.trans hb6)
        clear hb5 hb6 hb4 hr4
        go_wp2_with fail
        exact ⟨⟨h + 1, j, rfl, rfl, by omega, by omega, by omega, ⟨by have h3 := S.take_lt HA.out.2.2 hhB (x := x) (by rw [hy.out]; exact HR'.out); rw [show h + 1 - m = h - m + 1 by omega]; exact h3, HI.out.2⟩, hr5, hb7⟩, by simp only [intOf]; omega⟩
      · have HR' : Hid (S.rlt y x = false) := by unfold Hid; rw [HR.out]; simpa using hlr
        clear HR
        repeat (refine mix_soft rfl (fun K hK => ?_); go_simp; (first | (refine hK _ ?_; clear hK K) | (apply Exists.intro; refine ⟨fun x => ?_, hK _ ?_⟩; (first | (go_at_call 15; with_reducible exact HC.out _)); clear hK K)))
        clear p0 p1 p2 q0 q1 q2 HC
        refine mix_done fun w4 hb5 => ?_
        obtain ⟨hr5, hb6⟩ := hr4.out.go hb5
        have hr5 := Lib.hid hr5
        have hb7 := Lib.hid (hb4.out.trans hb6)
        clear hb5 hb6 hb4 hr4
        go_wp2_with fail
        exact ⟨⟨i, h, rfl, rfl, by omega, by omega, by omega, ⟨HI.out.1, S.drop_not HA.out.2.2 hhB (x := x) (by rw [hy.out]; exact HR'.out)⟩, hr5, hb7⟩, by simp only [intOf]; omega⟩
    · have hlt' : ¬ (i : Int) < (j : Int) := by omega
      obtain ⟨t, ht⟩ : ∃ t, i - m = t := ⟨_, rfl⟩
      obtain ⟨e, he⟩ : ∃ e, a + t = e := ⟨_, rfl⟩
      have f4 : IntKind.i64.wrap ((i : Int) - 1) = (e : Int) := by rw [IntKind.wrap_i64] <;> omega
      obtain ⟨V, Y, hVY⟩ : ∃ V Y, B.take t = V ∧ B.drop t = Y := ⟨_, _, rfl, rfl⟩
      have HV : Hid (V.length = t ∧ (∀ v ∈ V, S.rlt v x = true) ∧ (∀ y ∈ Y, S.rlt y x = false) ∧ S.Sorted (V ++ Y) ∧ B = V ++ Y) := by
        rw [← hVY.1, ← hVY.2]
        have h1 := HI.out.1
        have h2 := HI.out.2
        rw [ht] at h1
        rw [show j - m = t by omega] at h2
        exact ⟨by rw [List.length_take]; have := HA.out.2.1; omega, h1, h2, by rw [List.take_append_drop]; exact HA.out.2.2, (List.take_append_drop _ _).symm⟩
      have hr2 : Hid (Own wr base g n cap (P ++ ([] ++ (x :: (V ++ (Y ++ T)))))) := by
        have := hr.out
        rw [HV.out.2.2.2.2] at this
        unfold Hid
        simpa using this
      clear hr HI hVY
      go_wp2_with fail
      go_loopw [13] (fun u wr => ∃ (k : Nat) (V1 V2 : List Rw), u = .int .i64 k ∧ a ≤ k ∧ k ≤ e ∧ Hid (V = V1 ++ V2 ∧ a + V1.length = k) ∧ Hid (Own wr base g n cap (P ++ (V1 ++ (x :: (V2 ++ (Y ++ T)))))) ∧ Hid (Below base w wr)) (fun u _ => e - (intOf u).toNat)
      case atStart => exact ⟨a, [], V, rfl, by omega, by omega, ⟨rfl, by simp⟩, hr2, hbr⟩
      case round =>
        obtain ⟨k, V1, V2, rfl, hak, hke, HJ, hr, hbr⟩ := hrel
        clear hr2
        by_cases hkl : k < e
        · obtain ⟨y, V3, rfl⟩ : ∃ y V3, V2 = y :: V3 := by
            cases V2 with
            | nil =>
              have h1 := HJ.out.1
              have h2 := HJ.out.2
              have h3 := HV.out.1
              rw [h1] at h3
              simp at h3
              omega
            | cons y V3 => exact ⟨y, V3, rfl⟩
          obtain ⟨q, hq⟩ : ∃ q, k + 1 = q := ⟨_, rfl⟩
          have hX : (P ++ V1).length = k := by have h1 := HJ.out.2; have h2 := HA.out.1; simp; omega
          have hr3 : Hid (Own wr base g n cap ((P ++ V1) ++ x :: ([] ++ y :: (V3 ++ (Y ++ T))))) := by have := hr.out; unfold Hid; simpa using this
          have HS := Lib.hid (fun (W : World) (hW : Own W base g n cap ((P ++ V1) ++ x :: ([] ++ y :: (V3 ++ (Y ++ T))))) => And.intro (swap_at hW) (swap_go hW))
          rw [hX, show k + 1 + [].length = q by simpa using hq] at HS
          have hr := hr3
          clear hr3
          have hkl' : (k : Int) < (e : Int) := by omega
          have hen : e < n := by omega
          have i1 : (k : Int) < (n : Int) := by omega
          have i2 : (q : Int) < (n : Int) := by omega
          have i3 : (0 : Int) ≤ (k : Int) := by omega
          have i4 : (0 : Int) ≤ (q : Int) := by omega
          have i7 : IntKind.i64.wrap ((k : Int) + 1) = (q : Int) := by rw [IntKind.wrap_i64] <;> omega
          go_wp2_with fail
          refine Two.Ph.wp_region_mix3 Two.Ph.eq_grow Two.Ph.any_grow (fun _ _ _ => trivial) [15, 17] [(0, 2), (1, 2), (2, 0), (3, 0), (4, 0), (5, 2), (6, 2), (7, 2), (8, 2), (9, 2), (10, 2), (11, 2), (12, 2), (13, 2), (14, 2), (15, 1), (16, 0), (17, 1)] (by kernel_rfl) (by kernel_rfl) ?_
          have hr6 := Lib.hid (World.ownsRow.drew hr.out)
          have hb8 : Hid (Below base w wr.drew) := hbr.out.drew
          clear hr hbr
          generalize wr.drew = w5 at *
          obtain ⟨⟨⟨q0, q1, q2⟩, p0, p1, p2⟩, ⟨a0, a1, a2, k0, k1, k2, k3, k4, k5⟩, ⟨b0, b1, b2, l0, l1, l2, l3, l4, l5⟩, hs6⟩ := HS.out w5 hr6.out
          have hs7 := Lib.hid hs6
          have hz := Lib.hid (below_set3 (below_set3 hb8.out hbase (k * 3) (.string (str y.1)) (.int .i64 y.2.1) (.string (str y.2.2))) hbase (q * 3) (.string (str x.1)) (.int .i64 x.2.1) (.string (str x.2.2)))
          clear HS hs6 hr6 hb8 
          repeat ((first | refine Two.Ph.mix3_soft rfl (fun K hK => ?_) | refine Two.Ph.mix3_soon rfl (fun K hK => ?_)); go_simp; (first | (refine hK _ ?_; clear hK K) | (apply Exists.intro; refine ⟨fun x => ?_, hK _ ?_⟩; (first | done); clear hK K)))
          clear p0 p1 p2 q0 q1 q2
          refine Two.Ph.mix3_loud rfl (fun K hK => ?_)
          go_simp
          refine hK _ _ ?_
          clear hK K k0 k1 k2 k3 k4 k5
          repeat ((first | refine Two.Ph.mix3_soft rfl (fun K hK => ?_) | refine Two.Ph.mix3_soon rfl (fun K hK => ?_)); go_simp; (first | (refine hK _ ?_; clear hK K) | (apply Exists.intro; refine ⟨fun x => ?_, hK _ ?_⟩; (first | done); clear hK K)))
          refine Two.Ph.mix3_loud rfl (fun K hK => ?_)
          go_simp
          refine hK _ _ ?_
          clear hK K l0 l1 l2 l3 l4 l5
          refine Two.Ph.mix3_done fun w' h => ?_
          subst h
          go_wp2_with fail
          refine ⟨⟨q, V1 ++ [y], V3, rfl, by omega, by omega, ⟨by rw [HJ.out.1]; simp, by have h1 := HJ.out.2; simp; omega⟩, ?_, hz⟩, by simp only [intOf]; omega⟩
          unfold Hid
          simpa using hs7.out
        · have hkl' : ¬ (k : Int) < (e : Int) := by omega
          have h0 : V2 = [] := by
            have h1 := HJ.out.1
            have h2 := HJ.out.2
            have h3 := HV.out.1
            rw [h1] at h3
            simp at h3
            exact List.eq_nil_of_length_eq_zero (by omega)
          subst h0
          go_wp2_with fail
          refine bodyPost_ret (results_none rfl _ _ _) rfl ?_
          obtain ⟨-, h1, h2, h3, h4⟩ := HV.out
          refine ⟨rfl, ⟨V ++ x :: Y, ?_, ?_⟩, hbr.out⟩
          · rw [h4]; exact S.one_left h3 h1 h2
          · have := hr.out
            rw [HJ.out.1]
            simpa using this
end Go.Proofs.Ytgipmbphbcnhcaa
