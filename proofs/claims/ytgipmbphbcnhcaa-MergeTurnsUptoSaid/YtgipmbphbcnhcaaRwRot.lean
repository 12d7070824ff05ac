/- What slices.rotateCmpFunc leaves. -/
import Derived.Test.YtgipmbphbcnhcaaRwSwap
namespace Go.Proofs.Ytgipmbphbcnhcaa
open Go Go.RowKit

set_option maxRecDepth 4000 in
set_option maxHeartbeats 2000000 in
theorem rotate_any (w : World) (base g n cap a m b : Nat) (f : Value) (P U V S : List Rw) (hbase : base ≤ g) (hown : Own w base g n cap (P ++ (U ++ (V ++ S)))) (ha : P.length = a) (hm : a + U.length = m) (hb : m + V.length = b) (hU : 0 < U.length) (hV : 0 < V.length) :
    Calls Try.prog 26 #[.slice (some ⟨g, 0, none⟩) n cap, .int .i64 a, .int .i64 m, .int .i64 b, f] w fun e w' => e = .returned (.tuple #[]) ∧ Own w' base g n cap (P ++ (V ++ (U ++ S))) ∧ Below base w w' := by
  have hn := hown.len
  have HO := Lib.hid hown
  have hbig : n ≤ 9223372036854775807 := by
    rcases hown.2 with ⟨h0, -⟩ | ⟨g', cap', cur, e, -, -, h1, h2, -⟩
    · cases h0
    · unfold maxLen at h2; omega
  simp only [List.length_append] at hn
  obtain ⟨u, hu⟩ : ∃ u, U.length = u := ⟨_, rfl⟩
  obtain ⟨v, hv⟩ : ∃ v, V.length = v := ⟨_, rfl⟩
  rw [hu] at hm hU
  rw [hv] at hb hV
  have hlen := Lib.hid (And.intro ha (And.intro hu hv))
  have hmn : m + v ≤ n := by omega
  have hle : a ≤ m := by omega
  have hlb : m ≤ b := by omega
  have f1 : IntKind.i64.wrap ((m : Int) - (a : Int)) = (u : Int) := by rw [IntKind.wrap_i64] <;> omega
  have f2 : IntKind.i64.wrap ((b : Int) - (m : Int)) = (v : Int) := by rw [IntKind.wrap_i64] <;> omega
  clear hown ha hu hv hn
  go_enter Try.func26, Try.ntmps26
  go_wp2_with fail
  go_loopw [10, 11] (fun i j wr => ∃ (x y p : Nat) (P1 X Y S1 : List Rw), i = .int .i64 x ∧ j = .int .i64 y ∧ 0 < x ∧ 0 < y ∧ p + x = m ∧ m + y ≤ n ∧ Hid (P1.length = p ∧ X.length = x ∧ Y.length = y) ∧ Hid (Own wr base g n cap (P1 ++ (X ++ (Y ++ S1)))) ∧ Hid (P1 ++ (Y ++ (X ++ S1)) = P ++ (V ++ (U ++ S))) ∧ Hid (Below base w wr)) (fun i j _ => (intOf i).toNat + (intOf j).toNat)
  case atStart => exact ⟨u, v, a, P, U, V, S, rfl, rfl, hU, hV, hm, hmn, hlen, HO, Lib.hid rfl, Below.refl _ _⟩
  case round =>
    obtain ⟨x, y, p, P1, X, Y, S1, rfl, rfl, hx, hy, hp, hyn, hL, hr, HT, hbr⟩ := hrel
    clear HO hlen hU hV hm hmn f1 f2
    have f1 : IntKind.i64.wrap ((m : Int) - (x : Int)) = (p : Int) := by rw [IntKind.wrap_i64] <;> omega
    by_cases hxy : x = y
    · subst hxy
      have HC := Lib.hid (fun W (h : Own W base g n cap (P1 ++ (X ++ ([] ++ (Y ++ S1))))) => swapRange_any W base g n cap p m x f P1 X [] Y S1 hbase h hL.out.1 hL.out.2.1 hL.out.2.2 (by simpa using hp))
      go_wp2_with fail
      refine (HC.out _ hr.out).mono ?_
      rintro e w2 ⟨rfl, ho2, hb2⟩
      have ho3 : Hid (Own w2 base g n cap (P ++ (V ++ (U ++ S)))) := by rw [← HT.out]; exact ho2
      have hb3 := Lib.hid (hbr.out.trans hb2)
      clear ho2 hb2 HC
      go_wp2_with fail
      go_end0
      exact ⟨rfl, ho3.out, hb3.out⟩
    · have hne : ¬ (x : Int) = (y : Int) := by omega
      by_cases hlt : y < x
      · have hlt' : (y : Int) < (x : Int) := by omega
        have f3 : IntKind.i64.wrap ((x : Int) - (y : Int)) = ((x - y : Nat) : Int) := by rw [IntKind.wrap_i64] <;> omega
        obtain ⟨X1, X2, rfl, hX1, hX2⟩ : ∃ X1 X2, X = X1 ++ X2 ∧ X1.length = y ∧ X2.length = x - y := ⟨X.take y, X.drop y, by simp, by simp [hL.out.2.1]; omega, by simp [hL.out.2.1]⟩
        have HC := Lib.hid (fun W (h : Own W base g n cap (P1 ++ (X1 ++ (X2 ++ (Y ++ S1))))) => swapRange_any W base g n cap p m y f P1 X1 X2 Y S1 hbase h hL.out.1 hX1 hL.out.2.2 (by omega))
        have hr' : Hid (Own wr base g n cap (P1 ++ (X1 ++ (X2 ++ (Y ++ S1))))) := by have := hr.out; rw [List.append_assoc X1] at this; exact this
        have HL := Lib.hid (And.intro hX1 hX2)
        clear hX1 hX2 hr
        go_wp2_with fail
        refine (HC.out _ hr'.out).mono ?_
        rintro e w2 ⟨rfl, ho2, hb2⟩
        have ho3 : Hid (Own w2 base g n cap ((P1 ++ Y) ++ (X2 ++ (X1 ++ S1)))) := by unfold Hid; rw [List.append_assoc]; exact ho2
        have hb3 := Lib.hid (hbr.out.trans hb2)
        have HT' : Hid ((P1 ++ Y) ++ (X1 ++ (X2 ++ S1)) = P ++ (V ++ (U ++ S))) := by unfold Hid; rw [← HT.out]; simp
        have HL' : Hid ((P1 ++ Y).length = p + y ∧ X2.length = x - y ∧ X1.length = y) := ⟨by rw [List.length_append, hL.out.1, hL.out.2.2], HL.out.2, HL.out.1⟩
        clear ho2 hb2 HC HT hL HL hr' hbr
        go_wp2_with fail
        exact ⟨⟨x - y, y, p + y, P1 ++ Y, X2, X1, S1, rfl, rfl, by omega, hy, by omega, hyn, HL', ho3, HT', hb3⟩, by simp only [intOf]; omega⟩
      · have hlt' : ¬ (y : Int) < (x : Int) := by omega
        have f3 : IntKind.i64.wrap ((y : Int) - (x : Int)) = ((y - x : Nat) : Int) := by rw [IntKind.wrap_i64] <;> omega
        have f4 : IntKind.i64.wrap ((m : Int) + (y : Int)) = (m : Int) + (y : Int) := by rw [IntKind.wrap_i64] <;> omega
        have f5 : IntKind.i64.wrap ((m : Int) + (y : Int) - (x : Int)) = ((m + (y - x) : Nat) : Int) := by rw [IntKind.wrap_i64] <;> omega
        obtain ⟨Y1, Y2, rfl, hY1, hY2⟩ : ∃ Y1 Y2, Y = Y1 ++ Y2 ∧ Y1.length = y - x ∧ Y2.length = x := ⟨Y.take (y - x), Y.drop (y - x), by simp, by simp [hL.out.2.2], by simp [hL.out.2.2]; omega⟩
        have HC := Lib.hid (fun W (h : Own W base g n cap (P1 ++ (X ++ (Y1 ++ (Y2 ++ S1))))) => swapRange_any W base g n cap p (m + (y - x)) x f P1 X Y1 Y2 S1 hbase h hL.out.1 hL.out.2.1 hY2 (by omega))
        have hr' : Hid (Own wr base g n cap (P1 ++ (X ++ (Y1 ++ (Y2 ++ S1))))) := by have := hr.out; rw [List.append_assoc Y1] at this; exact this
        have HL := Lib.hid (And.intro hY1 hY2)
        clear hY1 hY2 hr
        go_wp2_with fail
        refine (HC.out _ hr'.out).mono ?_
        rintro e w2 ⟨rfl, ho2, hb2⟩
        have ho3 : Hid (Own w2 base g n cap (P1 ++ (Y2 ++ (Y1 ++ (X ++ S1))))) := ho2
        have hb3 := Lib.hid (hbr.out.trans hb2)
        have HT' : Hid (P1 ++ (Y1 ++ (Y2 ++ (X ++ S1))) = P ++ (V ++ (U ++ S))) := by unfold Hid; rw [← HT.out]; simp
        have HL' : Hid (P1.length = p ∧ Y2.length = x ∧ Y1.length = y - x) := ⟨hL.out.1, HL.out.2, HL.out.1⟩
        clear ho2 hb2 HC HT hL HL hr' hbr
        go_wp2_with fail
        exact ⟨⟨x, y - x, p, P1, Y2, Y1, X ++ S1, rfl, rfl, hx, by omega, hp, by omega, HL', ho3, HT', hb3⟩, by simp only [intOf]; omega⟩
end Go.Proofs.Ytgipmbphbcnhcaa
