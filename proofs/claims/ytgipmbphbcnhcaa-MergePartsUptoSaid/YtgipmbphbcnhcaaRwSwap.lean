/- What slices.swapRangeCmpFunc leaves. -/
import Derived.Test.YtgipmbphbcnhcaaRwCmp
import Derived.Test.YtgipmbphbcnhcaaMixPh
namespace Go.Proofs.Ytgipmbphbcnhcaa
open Go Go.RowKit







abbrev Own (w : World) (base g n cap : Nat) (m : List Rw) : Prop := w.ownsRow base 29 3 (.slice (some ⟨g, 0, none⟩) n cap) n (RW.cells m)
theorem Own.cell {w : World} {base n cap g : Nat} {m : List Rw} (h : Own w base g n cap m) (j : Nat) (hj : j < m.length) :
    w.cell? ⟨g, j * 3, none⟩ = some (.string (str m[j].1)) ∧ w.cell? ⟨g, j * 3 + 1, none⟩ = some (.int .i64 m[j].2.1) ∧ w.cell? ⟨g, j * 3 + 2, none⟩ = some (.string (str m[j].2.2)) := Three.own_cell3 h j hj
theorem Own.store {w : World} {base n cap g : Nat} {m : List Rw} (h : Own w base g n cap m) (j : Nat) (hj : j < m.length) (y : Rw) :
    Own (((w.setCell ⟨g, j * 3, none⟩ (.string (str y.1))).setCell ⟨g, j * 3 + 1, none⟩ (.int .i64 y.2.1)).setCell ⟨g, j * 3 + 2, none⟩ (.string (str y.2.2))) base g n cap (m.set j y) := Three.own_store3 h j hj y
/-- The world, a row set. -/
abbrev W1 (w : World) (g i : Nat) (y : Rw) : World := ((w.setCell ⟨g, i * 3, none⟩ (.string (str y.1))).setCell ⟨g, i * 3 + 1, none⟩ (.int .i64 y.2.1)).setCell ⟨g, i * 3 + 2, none⟩ (.string (str y.2.2))
theorem Own.len {w : World} {base n cap g : Nat} {m : List Rw} (h : Own w base g n cap m) : m.length = n := by
  have hl := h.1
  rw [Three.cells_length] at hl
  omega
theorem below_set3 {base g : Nat} {w w' : World} (h : Below base w w') (hg : base ≤ g) (i : Nat) (u0 u1 u2 : Value) : Below base w (((w'.setCell ⟨g, i, none⟩ u0).setCell ⟨g, i + 1, none⟩ u1).setCell ⟨g, i + 2, none⟩ u2) :=
  ((h.setCell (p := ⟨g, i, none⟩) hg u0).setCell (p := ⟨g, i + 1, none⟩) hg u1).setCell (p := ⟨g, i + 2, none⟩) hg u2

theorem cut {α : Type} {l : List α} {k : Nat} (h : k < l.length) : ∃ A x B, l = A ++ x :: B ∧ l.take k = A ∧ l.drop k = x :: B ∧ l.take (k + 1) = A ++ [x] ∧ l.drop (k + 1) = B ∧ A.length = k ∧ B.length + k + 1 = l.length :=
  ⟨l.take k, l[k], l.drop (k + 1), by rw [← List.drop_eq_getElem_cons h, List.take_append_drop], rfl, List.drop_eq_getElem_cons h, List.take_succ_eq_append_getElem h, rfl, by simp; omega, by simp; omega⟩
theorem two_len {α : Type} (X Y Z : List α) (x y : α) : (X ++ x :: (Y ++ y :: Z)).length = X.length + 1 + Y.length + 1 + Z.length := by simp; omega
theorem two_fst {α : Type} (X Y Z : List α) (x y : α) (h : X.length < (X ++ x :: (Y ++ y :: Z)).length) : (X ++ x :: (Y ++ y :: Z))[X.length] = x := by
  rw [List.getElem_append_right (Nat.le_refl _)]; simp
theorem two_snd {α : Type} (X Y Z : List α) (x y : α) (h : X.length + 1 + Y.length < (X ++ x :: (Y ++ y :: Z)).length) : (X ++ x :: (Y ++ y :: Z))[X.length + 1 + Y.length] = y := by
  have e : X ++ x :: (Y ++ y :: Z) = (X ++ x :: Y) ++ y :: Z := by simp
  have hl : (X ++ x :: Y).length = X.length + 1 + Y.length := by simp; omega
  have : ∀ (l : List α) (hl : l = (X ++ x :: Y) ++ y :: Z) (i : Nat) (hi : i = (X ++ x :: Y).length) (h : i < l.length), l[i] = y := fun l hl i hi h => by
    subst hl hi
    rw [List.getElem_append_right (Nat.le_refl _)]; simp
  exact this _ e _ hl.symm h
theorem two_set {α : Type} (X Y Z : List α) (x y : α) : ((X ++ x :: (Y ++ y :: Z)).set X.length y).set (X.length + 1 + Y.length) x = X ++ y :: (Y ++ x :: Z) := by
  rw [List.set_append_right _ _ (Nat.le_refl _), Nat.sub_self, List.set_cons_zero]
  have e : ∀ z w : α, X ++ y :: (Y ++ z :: Z) = (X ++ y :: Y) ++ z :: Z := fun z w => by simp
  rw [e y x, e x y, List.set_append_right _ _ (by simp; omega)]
  have : X.length + 1 + Y.length - (X ++ y :: Y).length = 0 := by simp; omega
  rw [this, List.set_cons_zero]
theorem two_rev {α : Type} (X Y Z : List α) (x y : α) : ((X ++ x :: (Y ++ y :: Z)).set (X.length + 1 + Y.length) x).set X.length y = X ++ y :: (Y ++ x :: Z) := by
  rw [List.set_comm _ _ (by omega)]
  exact two_set X Y Z x y

theorem swap_at {W : World} {base g n cap : Nat} {X Y Z : List Rw} {x y : Rw} (h : Own W base g n cap (X ++ x :: (Y ++ y :: Z))) :
    (W.cell? ⟨g, X.length * 3, none⟩ = some (.string (str x.1)) ∧ W.cell? ⟨g, X.length * 3 + 1, none⟩ = some (.int .i64 x.2.1) ∧ W.cell? ⟨g, X.length * 3 + 2, none⟩ = some (.string (str x.2.2)))
    ∧ W.cell? ⟨g, (X.length + 1 + Y.length) * 3, none⟩ = some (.string (str y.1)) ∧ W.cell? ⟨g, (X.length + 1 + Y.length) * 3 + 1, none⟩ = some (.int .i64 y.2.1) ∧ W.cell? ⟨g, (X.length + 1 + Y.length) * 3 + 2, none⟩ = some (.string (str y.2.2)) := by
  have hlx : X.length < (X ++ x :: (Y ++ y :: Z)).length := by rw [two_len]; omega
  have hly : X.length + 1 + Y.length < (X ++ x :: (Y ++ y :: Z)).length := by rw [two_len]; omega
  have h1 := h.cell _ hlx
  have h2 := h.cell _ hly
  rw [two_fst] at h1
  rw [two_snd] at h2
  exact ⟨h1, h2⟩
theorem swap_go {W : World} {base g n cap : Nat} {X Y Z : List Rw} {x y : Rw} (h : Own W base g n cap (X ++ x :: (Y ++ y :: Z))) :
    (∃ v0 v1 v2, W.cell? ⟨g, X.length * 3, none⟩ = some v0 ∧ W.frozen? ⟨g, X.length * 3, none⟩ = false
      ∧ (W.setCell ⟨g, X.length * 3, none⟩ (.string (str y.1))).cell? ⟨g, X.length * 3 + 1, none⟩ = some v1 ∧ (W.setCell ⟨g, X.length * 3, none⟩ (.string (str y.1))).frozen? ⟨g, X.length * 3 + 1, none⟩ = false
      ∧ ((W.setCell ⟨g, X.length * 3, none⟩ (.string (str y.1))).setCell ⟨g, X.length * 3 + 1, none⟩ (.int .i64 y.2.1)).cell? ⟨g, X.length * 3 + 2, none⟩ = some v2 ∧ ((W.setCell ⟨g, X.length * 3, none⟩ (.string (str y.1))).setCell ⟨g, X.length * 3 + 1, none⟩ (.int .i64 y.2.1)).frozen? ⟨g, X.length * 3 + 2, none⟩ = false)
    ∧ (∃ v0 v1 v2, (W1 W g X.length y).cell? ⟨g, (X.length + 1 + Y.length) * 3, none⟩ = some v0 ∧ (W1 W g X.length y).frozen? ⟨g, (X.length + 1 + Y.length) * 3, none⟩ = false
      ∧ ((W1 W g X.length y).setCell ⟨g, (X.length + 1 + Y.length) * 3, none⟩ (.string (str x.1))).cell? ⟨g, (X.length + 1 + Y.length) * 3 + 1, none⟩ = some v1 ∧ ((W1 W g X.length y).setCell ⟨g, (X.length + 1 + Y.length) * 3, none⟩ (.string (str x.1))).frozen? ⟨g, (X.length + 1 + Y.length) * 3 + 1, none⟩ = false
      ∧ (((W1 W g X.length y).setCell ⟨g, (X.length + 1 + Y.length) * 3, none⟩ (.string (str x.1))).setCell ⟨g, (X.length + 1 + Y.length) * 3 + 1, none⟩ (.int .i64 x.2.1)).cell? ⟨g, (X.length + 1 + Y.length) * 3 + 2, none⟩ = some v2 ∧ (((W1 W g X.length y).setCell ⟨g, (X.length + 1 + Y.length) * 3, none⟩ (.string (str x.1))).setCell ⟨g, (X.length + 1 + Y.length) * 3 + 1, none⟩ (.int .i64 x.2.1)).frozen? ⟨g, (X.length + 1 + Y.length) * 3 + 2, none⟩ = false)
    ∧ Own (W1 (W1 W g X.length y) g (X.length + 1 + Y.length) x) base g n cap (X ++ y :: (Y ++ x :: Z)) := by
  have hlx : X.length < (X ++ x :: (Y ++ y :: Z)).length := by rw [two_len]; omega
  have hly : X.length + 1 + Y.length < ((X ++ x :: (Y ++ y :: Z)).set X.length y).length := by rw [List.length_set, two_len]; omega
  have s1 := h.store _ hlx y
  refine ⟨Three.own_go3 h _ hlx y, Three.own_go3 s1 _ hly x, ?_⟩
  have s2 := s1.store _ hly x
  rw [two_set] at s2
  exact s2

set_option maxRecDepth 4000 in
set_option maxHeartbeats 2000000 in
theorem swapRange_any (w : World) (base g n cap a b c : Nat) (f : Value) (P U Q V R : List Rw) (hbase : base ≤ g) (hown : Own w base g n cap (P ++ (U ++ (Q ++ (V ++ R))))) (ha : P.length = a) (hU : U.length = c) (hV : V.length = c) (hb : a + c + Q.length = b) :
    Calls Try.prog 27 #[.slice (some ⟨g, 0, none⟩) n cap, .int .i64 a, .int .i64 b, .int .i64 c, f] w fun e w' => e = .returned (.tuple #[]) ∧ Own w' base g n cap (P ++ (V ++ (Q ++ (U ++ R)))) ∧ Below base w w' := by
  have hn := hown.len
  have HO := Lib.hid hown
  have hbig : n ≤ 9223372036854775807 := by
    rcases hown.2 with ⟨h0, -⟩ | ⟨g', cap', cur, e, -, -, h1, h2, -⟩
    · cases h0
    · unfold maxLen at h2; omega
  simp only [List.length_append] at hn
  have HSt : Hid (∀ k, k < c → ∃ X Y Z x y, P ++ ((V.take k ++ U.drop k) ++ (Q ++ ((U.take k ++ V.drop k) ++ R))) = X ++ x :: (Y ++ y :: Z) ∧ P ++ ((V.take (k + 1) ++ U.drop (k + 1)) ++ (Q ++ ((U.take (k + 1) ++ V.drop (k + 1)) ++ R))) = X ++ y :: (Y ++ x :: Z) ∧ X.length = a + k ∧ X.length + 1 + Y.length = b + k) := fun k hk => by
    obtain ⟨U1, u, U2, e0, e1, e2, e3, e4, e5, e6⟩ := cut (l := U) (k := k) (by omega)
    obtain ⟨V1, v, V2, g0, g1, g2, g3, g4, g5, g6⟩ := cut (l := V) (k := k) (by omega)
    rw [e1, e2, e3, e4, g1, g2, g3, g4]
    refine ⟨P ++ V1, U2 ++ (Q ++ U1), V2 ++ R, u, v, by simp, by simp, ?_, ?_⟩
    · simp only [List.length_append]; omega
    · simp only [List.length_append]; omega
  have HEnd : Hid (P ++ ((V.take c ++ U.drop c) ++ (Q ++ ((U.take c ++ V.drop c) ++ R))) = P ++ (V ++ (Q ++ (U ++ R)))) := by
    unfold Hid
    rw [List.take_of_length_le (Nat.le_of_eq hV), List.take_of_length_le (Nat.le_of_eq hU), List.drop_of_length_le (Nat.le_of_eq hU), List.drop_of_length_le (Nat.le_of_eq hV)]
    simp
  have hlt : b + c ≤ n := by omega
  have hab : a ≤ b := by omega
  clear hown ha hU hV hb hn
  go_enter Try.func27, Try.ntmps27
  go_wp2_with fail
  go_loopw [10] (fun i wr => ∃ k : Nat, k ≤ c ∧ i = .int .i64 k ∧ Hid (Own wr base g n cap (P ++ ((V.take k ++ U.drop k) ++ (Q ++ ((U.take k ++ V.drop k) ++ R))))) ∧ Hid (Below base w wr)) (fun i _ => c - (intOf i).toNat)
  case atStart => exact ⟨0, by omega, rfl, by simpa using HO, Below.refl _ _⟩
  case round =>
    obtain ⟨k, hk, rfl, hr, hbr⟩ := hrel
    by_cases hkc : k < c
    · obtain ⟨X, Y, Z, x, y, e1, e2, hX, hY⟩ := HSt.out k hkc
      rw [e1] at hr
      clear e1
      have HE := Lib.hid e2
      have HE := Lib.hid e2
      have hlx : X.length < (X ++ x :: (Y ++ y :: Z)).length := by rw [two_len]; omega
      have hly : X.length + 1 + Y.length < (X ++ x :: (Y ++ y :: Z)).length := by rw [two_len]; omega
      have HS := Lib.hid (fun (W : World) (hW : Own W base g n cap (X ++ x :: (Y ++ y :: Z))) => swap_go hW)
      have HC := Lib.hid (fun (W : World) (hW : Own W base g n cap (X ++ x :: (Y ++ y :: Z))) => swap_at hW)
      rw [hY] at HC HS
      rw [hX] at HC HS
      clear e2 hlx hly hX hY
      obtain ⟨x0, x1, x2⟩ := x
      obtain ⟨y0, y1, y2⟩ := y
      have i1 : (a : Int) + (k : Int) < (n : Int) := by omega
      have i2 : (b : Int) + (k : Int) < (n : Int) := by omega
      have i3 : (0 : Int) ≤ (a : Int) + (k : Int) := by omega
      have i4 : (0 : Int) ≤ (b : Int) + (k : Int) := by omega
      have i5 : ((a : Int) + (k : Int)).toNat = a + k := by omega
      have i6 : ((b : Int) + (k : Int)).toNat = b + k := by omega
      have i7 : IntKind.i64.wrap ((a : Int) + (k : Int)) = (a : Int) + (k : Int) := by rw [IntKind.wrap_i64]; omega
      have i8 : IntKind.i64.wrap ((b : Int) + (k : Int)) = (b : Int) + (k : Int) := by rw [IntKind.wrap_i64]; omega
      go_wp2_with fail
      refine Two.Ph.wp_region_mix3 Two.Ph.eq_grow Two.Ph.any_grow (fun _ _ _ => trivial) [21, 23] [(0, 2), (1, 2), (2, 2), (3, 2), (4, 0), (5, 0), (6, 0), (7, 0), (8, 2), (9, 2), (10, 2), (11, 2), (12, 2), (13, 2), (14, 2), (15, 0), (16, 0), (17, 2), (18, 2), (19, 2), (20, 2), (21, 1), (22, 0), (23, 1)] (by kernel_rfl) (by kernel_rfl) ?_
      have hr' : Hid (Own wr.drew base g n cap (X ++ (x0, x1, x2) :: (Y ++ (y0, y1, y2) :: Z))) := hr.out.drew
      have hb' : Hid (Below base w wr.drew) := hbr.out.drew
      clear hr hbr
      generalize wr.drew = w0 at *
      obtain ⟨⟨p0, p1, p2⟩, q0, q1, q2⟩ := HC.out w0 hr'.out
      obtain ⟨⟨a0, a1, a2, A0, A1, A2, A3, A4, A5⟩, ⟨b0, b1, b2, B0, B1, B2, B3, B4, B5⟩, hs⟩ := HS.out w0 hr'.out
      rw [← HE.out] at hs
      have hs' := Lib.hid hs
      have hz := Lib.hid (below_set3 (below_set3 hb'.out hbase ((a + k) * 3) (.string (str y0)) (.int .i64 y1) (.string (str y2))) hbase ((b + k) * 3) (.string (str x0)) (.int .i64 x1) (.string (str x2)))
      clear HE hs HS HC hr' hb' HEnd HSt HO
      repeat ((first | refine Two.Ph.mix3_soft rfl (fun K hK => ?_) | refine Two.Ph.mix3_soon rfl (fun K hK => ?_)); go_simp; (first | (refine hK _ ?_; clear hK K) | (apply Exists.intro; refine ⟨fun x => ?_, hK _ ?_⟩; (first | done); clear hK K)))
      clear p0 p1 p2 q0 q1 q2
      refine Two.Ph.mix3_loud rfl (fun K hK => ?_)
      go_simp
      refine hK _ _ ?_
      clear hK K A0 A1 A2 A3 A4 A5
      repeat ((first | refine Two.Ph.mix3_soft rfl (fun K hK => ?_) | refine Two.Ph.mix3_soon rfl (fun K hK => ?_)); go_simp; (first | (refine hK _ ?_; clear hK K) | (apply Exists.intro; refine ⟨fun x => ?_, hK _ ?_⟩; (first | done); clear hK K)))
      refine Two.Ph.mix3_loud rfl (fun K hK => ?_)
      go_simp
      refine hK _ _ ?_
      clear hK K B0 B1 B2 B3 B4 B5
      refine Two.Ph.mix3_done fun w' h => ?_
      subst h
      go_wp2_with fail
      exact ⟨⟨k + 1, by omega, rfl, hs', hz⟩, by simp only [intOf]; omega⟩
    · obtain rfl : c = k := by omega
      rw [HEnd.out] at hr
      go_wp2_with fail
      go_end0
      exact ⟨rfl, hr.out, hbr.out⟩
end Go.Proofs.Ytgipmbphbcnhcaa
