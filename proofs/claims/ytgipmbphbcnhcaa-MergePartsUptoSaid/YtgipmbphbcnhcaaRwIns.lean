/- What slices.insertionSortCmpFunc leaves. -/
import Derived.Test.YtgipmbphbcnhcaaRwRot
import Derived.Test.YtgipmbphbcnhcaaSymPlain
namespace Go.Proofs.Ytgipmbphbcnhcaa
open Go Go.RowKit

/-- merge.compare as a value. -/
abbrev cmpV : Value := .func (.func 15) #[] #[]
theorem Own.big {w : World} {base g n cap : Nat} {m : List Rw} (h : Own w base g n cap m) : n ≤ 9223372036854775807 := by
  rcases h.2 with ⟨h0, -⟩ | ⟨g', cap', cur, e, -, -, h1, h2, -⟩
  · cases h0
  · unfold maxLen at h2; omega
theorem Own.room {w : World} {base g n cap : Nat} {m : List Rw} (h : Own w base g n cap m) : base ≤ w.heap.size := by
  rcases h.2 with ⟨h0, -⟩ | ⟨g', cap', cur, e, h3, h4, h1, h2, -⟩
  · cases h0
  · have := (Array.getElem?_eq_some_iff.1 h4).1; omega
theorem Own.go {w w' : World} {base g n cap : Nat} {m : List Rw} (h : Own w base g n cap m) (hb : Below w.heap.size w w') : Own w' base g n cap m ∧ Below base w w' := ⟨ownsRow.below h hb, hb.mono h.room⟩

/-- The same, the second store first. -/
theorem swap_og {W : World} {base g n cap : Nat} {X Y Z : List Rw} {x y : Rw} (h : Own W base g n cap (X ++ x :: (Y ++ y :: Z))) :
    (∃ v0 v1 v2, W.cell? ⟨g, (X.length + 1 + Y.length) * 3, none⟩ = some v0 ∧ W.frozen? ⟨g, (X.length + 1 + Y.length) * 3, none⟩ = false
      ∧ (W.setCell ⟨g, (X.length + 1 + Y.length) * 3, none⟩ (.string (str x.1))).cell? ⟨g, (X.length + 1 + Y.length) * 3 + 1, none⟩ = some v1 ∧ (W.setCell ⟨g, (X.length + 1 + Y.length) * 3, none⟩ (.string (str x.1))).frozen? ⟨g, (X.length + 1 + Y.length) * 3 + 1, none⟩ = false
      ∧ ((W.setCell ⟨g, (X.length + 1 + Y.length) * 3, none⟩ (.string (str x.1))).setCell ⟨g, (X.length + 1 + Y.length) * 3 + 1, none⟩ (.int .i64 x.2.1)).cell? ⟨g, (X.length + 1 + Y.length) * 3 + 2, none⟩ = some v2 ∧ ((W.setCell ⟨g, (X.length + 1 + Y.length) * 3, none⟩ (.string (str x.1))).setCell ⟨g, (X.length + 1 + Y.length) * 3 + 1, none⟩ (.int .i64 x.2.1)).frozen? ⟨g, (X.length + 1 + Y.length) * 3 + 2, none⟩ = false)
    ∧ (∃ v0 v1 v2, (W1 W g (X.length + 1 + Y.length) x).cell? ⟨g, X.length * 3, none⟩ = some v0 ∧ (W1 W g (X.length + 1 + Y.length) x).frozen? ⟨g, X.length * 3, none⟩ = false
      ∧ ((W1 W g (X.length + 1 + Y.length) x).setCell ⟨g, X.length * 3, none⟩ (.string (str y.1))).cell? ⟨g, X.length * 3 + 1, none⟩ = some v1 ∧ ((W1 W g (X.length + 1 + Y.length) x).setCell ⟨g, X.length * 3, none⟩ (.string (str y.1))).frozen? ⟨g, X.length * 3 + 1, none⟩ = false
      ∧ (((W1 W g (X.length + 1 + Y.length) x).setCell ⟨g, X.length * 3, none⟩ (.string (str y.1))).setCell ⟨g, X.length * 3 + 1, none⟩ (.int .i64 y.2.1)).cell? ⟨g, X.length * 3 + 2, none⟩ = some v2 ∧ (((W1 W g (X.length + 1 + Y.length) x).setCell ⟨g, X.length * 3, none⟩ (.string (str y.1))).setCell ⟨g, X.length * 3 + 1, none⟩ (.int .i64 y.2.1)).frozen? ⟨g, X.length * 3 + 2, none⟩ = false)
    ∧ Own (W1 (W1 W g (X.length + 1 + Y.length) x) g X.length y) base g n cap (X ++ y :: (Y ++ x :: Z)) := by
  have hly : X.length + 1 + Y.length < (X ++ x :: (Y ++ y :: Z)).length := by rw [two_len]; omega
  have hlx : X.length < ((X ++ x :: (Y ++ y :: Z)).set (X.length + 1 + Y.length) x).length := by rw [List.length_set, two_len]; omega
  have s1 := h.store _ hly x
  refine ⟨Three.own_go3 h _ hly x, Three.own_go3 s1 _ hlx y, ?_⟩
  have s2 := s1.store _ hlx y
  rw [two_rev] at s2
  exact s2

namespace S
theorem no_lt {x c v : Rw} (h : rlt x c = false) (k : rlt c v = false) : rlt x v = false := by
  rw [Bool.eq_false_iff]; intro hlt
  rcases rlt_either hlt c with h' | h'
  · rw [h] at h'; cases h'
  · rw [k] at h'; cases h'
/-- One more in its place. -/
theorem ins_step {A1 C1 C2 : List Rw} {x : Rw} (hs : IsSort A1 (C1 ++ C2)) (h2 : ∀ y ∈ C2, rlt x y = true) (h1 : ∀ D y, C1 = D ++ [y] → rlt x y = false) : IsSort (A1 ++ [x]) (C1 ++ x :: C2) := by
  refine (one_right hs.sorted ?_ h2).of_alike (hs.alike.append (Alike.refl [x]))
  intro v hv
  rcases List.eq_nil_or_concat C1 with rfl | ⟨D, y, rfl⟩
  · cases hv
  · have hy := h1 D y (by simp)
    rcases List.mem_append.1 (by simpa using hv : v ∈ D ++ [y]) with h | h
    · obtain ⟨h3, -, -⟩ := sorted_append.1 hs.sorted
      have h4 := (sorted_append.1 (by simpa using h3 : Sorted (D ++ [y]))).2.2 v h y (by simp)
      exact no_lt hy h4
    · rw [List.mem_singleton.1 h]; exact hy
end S

set_option maxRecDepth 4000 in
set_option maxHeartbeats 4000000 in
theorem insertion_any (w : World) (base g n cap a b : Nat) (P A T : List Rw) (hbase : base ≤ g) (hs : n ≤ 1000000) (hown : Own w base g n cap (P ++ (A ++ T))) (ha : P.length = a) (hb : a + A.length = b) :
    Calls Try.prog 24 #[.slice (some ⟨g, 0, none⟩) n cap, .int .i64 a, .int .i64 b, cmpV] w fun e w' => e = .returned (.tuple #[]) ∧ (∃ C, S.IsSort A C ∧ Own w' base g n cap (P ++ (C ++ T))) ∧ Below base w w' := by
  have hn := hown.len
  have HO := Lib.hid hown
  simp only [List.length_append] at hn
  have HA := Lib.hid (And.intro ha hb)
  have hbn : b ≤ n := by omega
  have hab : a ≤ b := by omega
  clear hown ha hb hn
  go_enter Try.func24, Try.ntmps24
  have f0 : IntKind.i64.wrap ((a : Int) + 1) = ((a + 1 : Nat) : Int) := by rw [IntKind.wrap_i64] <;> omega
  go_wp2_with fail
  go_loopw [8] (fun u wr => ∃ (i : Nat) (A1 C A2 : List Rw), u = .int .i64 i ∧ i ≤ n + 1 ∧ a + 1 ≤ i ∧ Hid (A = A1 ++ A2 ∧ S.IsSort A1 C ∧ (a + A1.length = i ∨ (A2 = [] ∧ a + A1.length ≤ i))) ∧ Hid (Own wr base g n cap (P ++ (C ++ (A2 ++ T)))) ∧ Hid (Below base w wr)) (fun u _ => (n + 1) - (intOf u).toNat)
  case atStart =>
    cases A with
    | nil => exact ⟨a + 1, [], [], [], by simp, by omega, by omega, ⟨rfl, S.IsSort.self (by exact List.Pairwise.nil), .inr ⟨rfl, by simp⟩⟩, HO, Below.refl _ _⟩
    | cons x A => exact ⟨a + 1, [x], [x], A, by simp, by omega, by omega, ⟨rfl, S.IsSort.self (by exact List.pairwise_singleton _ _), .inl (by simp)⟩, HO, Below.refl _ _⟩
  case round =>
    obtain ⟨i, A1, C, A2, rfl, hin, hai, HI, hr, hbr⟩ := hrel
    clear HO f0
    by_cases hib : i < b
    · obtain ⟨x, A3, hx⟩ : ∃ x A3, A2 = x :: A3 := by
        cases A2 with
        | nil =>
          have h1 := HI.out.1
          have h2 := HA.out.2
          rw [h1] at h2
          rcases HI.out.2.2 with h | h
          · simp at h2; omega
          · simp at h2; omega
        | cons x A3 => exact ⟨x, A3, rfl⟩
      subst hx
      have HI' : Hid (A = A1 ++ x :: A3 ∧ S.IsSort A1 C ∧ a + A1.length = i) := ⟨HI.out.1, HI.out.2.1, by rcases HI.out.2.2 with h | h; exact h; cases h.1⟩
      clear HI
      have f1 : IntKind.i64.wrap ((i : Int) + 1) = ((i + 1 : Nat) : Int) := by rw [IntKind.wrap_i64] <;> omega
      go_wp2_with fail
      go_loopw [9] (fun u wr => ∃ (j : Nat) (C1 C2 : List Rw), u = .int .i64 j ∧ j ≤ i ∧ a ≤ j ∧ Hid (C = C1 ++ C2 ∧ (∀ y ∈ C2, S.rlt x y = true) ∧ a + C1.length = j) ∧ Hid (Own wr base g n cap (P ++ (C1 ++ (x :: (C2 ++ (A3 ++ T)))))) ∧ Hid (Below base w wr)) (fun u _ => (intOf u).toNat)
      case atStart =>
        exact ⟨i, C, [], rfl, by omega, by omega, Lib.hid (And.intro (by simp) (And.intro (fun y hy => absurd hy (by simp)) (by rw [HI'.out.2.1.len]; exact HI'.out.2.2))), hr, hbr⟩
      case round =>
        obtain ⟨j, C1, C2, rfl, hji, haj, HJ, hr2, hbr2⟩ := hrel
        clear hr hbr
        have HN : Hid ((∀ D y, C1 = D ++ [y] → S.rlt x y = false) → (∃ (A1' C' A2' : List Rw), Hid (A = A1' ++ A2' ∧ S.IsSort A1' C' ∧ (a + A1'.length = i + 1 ∨ (A2' = [] ∧ a + A1'.length ≤ i + 1))) ∧ ∀ W, Own W base g n cap (P ++ (C1 ++ (x :: (C2 ++ (A3 ++ T))))) → Hid (Own W base g n cap (P ++ (C' ++ (A2' ++ T)))))) := fun h => by
          obtain ⟨h1, h2, h3⟩ := HI'.out
          obtain ⟨k1, k2, k3⟩ := HJ.out
          rw [k1] at h2
          exact ⟨A1 ++ [x], C1 ++ x :: C2, A3, ⟨by rw [h1]; simp, S.ins_step h2 k2 h, .inl (by simp; omega)⟩, fun W hW => by unfold Hid; simpa using hW⟩
        by_cases hlt : a < j
        · obtain ⟨q, hq⟩ : ∃ q, q + 1 = j := ⟨j - 1, by omega⟩
          obtain ⟨D, y, hD⟩ : ∃ D y, C1 = D ++ [y] := by
            rcases List.eq_nil_or_concat C1 with h | ⟨D, y, h⟩
            · have := HJ.out.2.2; rw [h] at this; simp at this; omega
            · exact ⟨D, y, by rw [h]; simp⟩
          subst hD
          have hD : (P ++ D).length = q := by have h1 := HJ.out.2.2; have h2 := HA.out.1; simp at h1 ⊢; omega
          have hr3 : Own wr base g n cap ((P ++ D) ++ y :: ([] ++ x :: (C2 ++ (A3 ++ T)))) := by simpa using hr2.out
          have HS := Lib.hid (fun (W : World) (hW : Own W base g n cap ((P ++ D) ++ y :: ([] ++ x :: (C2 ++ (A3 ++ T))))) => And.intro (swap_at hW) (swap_og hW))
          rw [hD, show q + 1 + [].length = j by simpa using hq] at HS
          have HR := Lib.hid (show S.rlt x y = decide (S.rcmp x y < 0) from rfl)
          obtain ⟨x0, x1, x2⟩ := x
          obtain ⟨y0, y1, y2⟩ := y
          have HC : Hid (∀ W, Calls Try.prog 15 #[.agg #[.string (str x0), .int .i64 x1, .string (str x2)], .agg #[.string (str y0), .int .i64 y1, .string (str y2)]] W fun e w' => e = .returned (.int .i64 (S.rcmp (x0, x1, x2) (y0, y1, y2))) ∧ Ext W w') := fun W => rcmp_any (x0, x1, x2) (y0, y1, y2) W
          generalize S.rcmp (x0, x1, x2) (y0, y1, y2) = r at *
          have i1 : (j : Int) < (n : Int) := by omega
          have i2 : (q : Int) < (n : Int) := by omega
          have i3 : (0 : Int) ≤ (j : Int) := by omega
          have i4 : (0 : Int) ≤ (q : Int) := by omega
          have i7 : IntKind.i64.wrap ((j : Int) - 1) = (q : Int) := by rw [IntKind.wrap_i64] <;> omega
          have hlt' : (a : Int) < (j : Int) := by omega
          go_wp2_with fail
          refine wp_region_mix ext_grow [(0, false), (1, false), (2, false), (3, false), (4, false), (5, false), (6, false), (7, false), (8, false), (9, false), (10, false), (11, false), (12, false), (13, false), (14, false), (15, false), (16, false)] (by kernel_rfl) (by kernel_rfl) ?_
          have hr4 : Hid (Own wr.drew base g n cap ((P ++ D) ++ (y0, y1, y2) :: ([] ++ (x0, x1, x2) :: (C2 ++ (A3 ++ T))))) := World.ownsRow.drew hr3
          have hb4 : Hid (Below base w wr.drew) := hbr2.out.drew
          clear hr2 hr3 hbr2
          generalize wr.drew = w0 at *
          have HA6 : ∀ x : Later w0, Own x.1 base g n cap ((P ++ D) ++ (y0, y1, y2) :: ([] ++ (x0, x1, x2) :: (C2 ++ (A3 ++ T)))) := fun x => ownsRow.below hr4.out x.2
          have q0 : ∀ x : Later w0, x.1.cell? ⟨g, q * 3, none⟩ = some (.string (str y0)) := fun x => (HS.out _ (HA6 x)).1.1.1
          have q1 : ∀ x : Later w0, x.1.cell? ⟨g, q * 3 + 1, none⟩ = some (.int .i64 y1) := fun x => (HS.out _ (HA6 x)).1.1.2.1
          have q2 : ∀ x : Later w0, x.1.cell? ⟨g, q * 3 + 2, none⟩ = some (.string (str y2)) := fun x => (HS.out _ (HA6 x)).1.1.2.2
          have p0 : ∀ x : Later w0, x.1.cell? ⟨g, j * 3, none⟩ = some (.string (str x0)) := fun x => (HS.out _ (HA6 x)).1.2.1
          have p1 : ∀ x : Later w0, x.1.cell? ⟨g, j * 3 + 1, none⟩ = some (.int .i64 x1) := fun x => (HS.out _ (HA6 x)).1.2.2.1
          have p2 : ∀ x : Later w0, x.1.cell? ⟨g, j * 3 + 2, none⟩ = some (.string (str x2)) := fun x => (HS.out _ (HA6 x)).1.2.2.2
          clear HA6
          by_cases hlr : r < 0
          · have HR' : Hid (S.rlt (x0, x1, x2) (y0, y1, y2) = true) := by unfold Hid; rw [HR.out]; simpa using hlr
            clear HR
            repeat (refine mix_soft rfl (fun K hK => ?_); go_simp; (first | (refine hK _ ?_; clear hK K) | (apply Exists.intro; refine ⟨fun x => ?_, hK _ ?_⟩; (first | (go_at_call 15; with_reducible exact HC.out _)); clear hK K)))
            clear p0 p1 p2 q0 q1 q2
            refine mix_done fun w4 hb5 => ?_
            obtain ⟨hr5, hb6⟩ := hr4.out.go hb5
            have hr5 := Lib.hid hr5
            have hb7 := Lib.hid (hb4.out.trans hb6)
            clear hb5 hb6 hb4 hr4
            go_wp2_with fail
            refine Two.Ph.wp_region_mix3 Two.Ph.eq_grow Two.Ph.any_grow (fun _ _ _ => trivial) [15, 17] [(0, 2), (1, 2), (2, 0), (3, 0), (4, 0), (5, 2), (6, 2), (7, 2), (8, 2), (9, 2), (10, 2), (11, 2), (12, 2), (13, 2), (14, 2), (15, 1), (16, 0), (17, 1)] (by kernel_rfl) (by kernel_rfl) ?_
            have hr6 : Hid (Own w4.drew base g n cap ((P ++ D) ++ (y0, y1, y2) :: ([] ++ (x0, x1, x2) :: (C2 ++ (A3 ++ T))))) := World.ownsRow.drew hr5.out
            have hb8 : Hid (Below base w w4.drew) := hb7.out.drew
            clear hr5 hb7
            generalize w4.drew = w5 at *
            obtain ⟨⟨⟨q0, q1, q2⟩, p0, p1, p2⟩, ⟨a0, a1, a2, k0, k1, k2, k3, k4, k5⟩, ⟨b0, b1, b2, l0, l1, l2, l3, l4, l5⟩, hs6⟩ := HS.out w5 hr6.out
            have hs7 := Lib.hid hs6
            have hz := Lib.hid (below_set3 (below_set3 hb8.out hbase (j * 3) (.string (str y0)) (.int .i64 y1) (.string (str y2))) hbase (q * 3) (.string (str x0)) (.int .i64 x1) (.string (str x2)))
            clear HS hs6 hr6 hb8 HC HN
            repeat ((first | refine Two.Ph.mix3_soft rfl (fun K hK => ?_) | refine Two.Ph.mix3_soon rfl (fun K hK => ?_)); go_simp; (first | (refine hK _ ?_; clear hK K) | (apply Exists.intro; refine ⟨fun x => ?_, hK _ ?_⟩; (first | done); clear hK K)))
            clear p0 p1 p2 q0 q1 q2
            refine Two.Ph.mix3_loud rfl (fun K hK => ?_)
            go_simp
            refine hK _ _ ?_
            clear hK K k0 k1 k2 k3 k4 k5
            repeat ((first | refine Two.Ph.mix3_soft rfl (fun K hK => ?_) | refine Two.Ph.mix3_soon rfl (fun K hK => ?_)); go_simp; (first | (refine hK _ ?_; clear hK K) | (apply Exists.intro; refine ⟨fun x => ?_, hK _ ?_⟩; (first | done); clear hK K)))
            refine Two.Ph.mix3_loud rfl (fun K hK => ?_)
            go_simp
            refine hK _ _ ?_
            clear hK K l0 l1 l2 l3 l4 l5
            refine Two.Ph.mix3_done fun w' h => ?_
            subst h
            go_wp2_with fail
            refine ⟨⟨q, D, (y0, y1, y2) :: C2, rfl, by omega, by omega, ⟨by rw [HJ.out.1]; simp, fun z hz => ?_, by have h1 := HJ.out.2.2; simp at h1; omega⟩, ?_, hz⟩, by simp only [intOf]; omega⟩
            · rcases List.mem_cons.1 hz with rfl | hz
              · exact HR'.out
              · exact HJ.out.2.1 z hz
            · unfold Hid
              simpa using hs7.out
          · have HR' : Hid (S.rlt (x0, x1, x2) (y0, y1, y2) = false) := by unfold Hid; rw [HR.out]; simpa using hlr
            clear HR
            repeat (refine mix_soft rfl (fun K hK => ?_); go_simp; (first | (refine hK _ ?_; clear hK K) | (apply Exists.intro; refine ⟨fun x => ?_, hK _ ?_⟩; (first | (go_at_call 15; with_reducible exact HC.out _)); clear hK K)))
            clear p0 p1 p2 q0 q1 q2 HC HS
            refine mix_done fun w4 hb5 => ?_
            obtain ⟨hr5, hb6⟩ := hr4.out.go hb5
            have hr5' : Own w4 base g n cap (P ++ ((D ++ [(y0, y1, y2)]) ++ ((x0, x1, x2) :: (C2 ++ (A3 ++ T))))) := by simpa using hr5
            obtain ⟨A1', C', A2', hI', hO'⟩ := HN.out (fun D' y' h => by
              have h2 := (List.append_inj' h rfl).2
              rw [← (List.cons.inj h2).1]
              exact HR'.out)
            have hO2 := hO' _ hr5'
            have hb7 := Lib.hid (hb4.out.trans hb6)
            clear hb5 hb6 hb4 hr4 hr5 hr5' hO' HN HR'
            go_wp2_with fail
            exact ⟨⟨i + 1, A1', C', A2', rfl, by omega, by omega, hI', hO2, hb7⟩, by simp only [intOf]; omega⟩
        · have hlt' : ¬ (a : Int) < (j : Int) := by omega
          have h0 : C1 = [] := by
            have h1 := HJ.out.2.2
            exact List.eq_nil_of_length_eq_zero (by omega)
          subst h0
          obtain ⟨A1', C', A2', hI', hO'⟩ := HN.out (fun D' y' h => by simp at h)
          go_wp2_with fail
          refine wp_region_mix ext_grow [(0, false), (1, false), (2, false), (3, false), (4, false), (5, false), (6, false), (7, false), (8, false), (9, false), (10, false), (11, false), (12, false), (13, false), (14, false), (15, false), (16, false)] (by kernel_rfl) (by kernel_rfl) ?_
          have hr4 := World.ownsRow.drew hr2.out
          have hb4 : Hid (Below base w wr.drew) := hbr2.out.drew
          clear hr2 hbr2 HN
          generalize wr.drew = w0 at *
          repeat (refine mix_soft rfl (fun K hK => ?_); go_simp; (first | (refine hK _ ?_; clear hK K) | (apply Exists.intro; refine ⟨fun x => ?_, hK _ ?_⟩; (first | done); clear hK K)))
          refine mix_done fun w4 hb5 => ?_
          obtain ⟨hr5, hb6⟩ := Own.go hr4 hb5
          have hO2 := hO' _ hr5
          have hb7 := Lib.hid (hb4.out.trans hb6)
          clear hb5 hb6 hb4 hr4 hr5 hO'
          go_wp2_with fail
          exact ⟨⟨i + 1, A1', C', A2', rfl, by omega, by omega, hI', hO2, hb7⟩, by simp only [intOf]; omega⟩
    · have hib' : ¬ (i : Int) < (b : Int) := by omega
      go_wp2_with fail
      go_end0
      refine ⟨rfl, ⟨C, ?_, ?_⟩, hbr.out⟩
      · obtain ⟨h1, h2, h3⟩ := HI.out
        have hn2 : A2 = [] := by
          rcases h3 with h | h
          · have h4 := HA.out.2; rw [h1] at h4; simp at h4; exact List.eq_nil_of_length_eq_zero (by omega)
          · exact h.1
        rw [h1, hn2, List.append_nil]; exact h2
      · obtain ⟨h1, h2, h3⟩ := HI.out
        have hn2 : A2 = [] := by
          rcases h3 with h | h
          · have h4 := HA.out.2; rw [h1] at h4; simp at h4; exact List.eq_nil_of_length_eq_zero (by omega)
          · exact h.1
        have := hr.out
        rw [hn2, List.nil_append] at this
        exact this
end Go.Proofs.Ytgipmbphbcnhcaa
