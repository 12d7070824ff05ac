/- What slices.symMergeCmpFunc leaves. Printed by mksym.py. -/
import Derived.Test.YtgipmbphbcnhcaaRwSym2
import Derived.Deep.CutRange
namespace Go.Proofs.Ytgipmbphbcnhcaa
open Go Go.RowKit

theorem mid_fst {P A R : List Rw} {a i : Nat} (ha : P.length = a) (h1 : a ≤ i) (h2 : i - a < A.length) : (P ++ (A ++ R))[i]? = some (A[i - a]'h2) := by
  rw [List.getElem?_append_right (by omega), show i - P.length = i - a by omega, List.getElem?_append_left h2, List.getElem?_eq_getElem h2]
theorem mid_snd {P A B R : List Rw} {a m i : Nat} (ha : P.length = a) (hm : a + A.length = m) (h1 : m ≤ i) (h2 : i - m < B.length) : (P ++ (A ++ (B ++ R)))[i]? = some (B[i - m]'h2) := by
  have e : P ++ (A ++ (B ++ R)) = (P ++ A) ++ (B ++ R) := by simp
  rw [e]
  exact mid_fst (by simp; omega) h1 h2

set_option maxRecDepth 8000 in
set_option maxHeartbeats 40000000 in
theorem sym_step (base g n cap : Nat) (hbase : base ≤ g) (hs : n ≤ 1000000) (K : Nat)
    (ih : ∀ (w : World) (a m b : Nat) (P A B T : List Rw), A.length + B.length ≤ K → Own w base g n cap (P ++ (A ++ (B ++ T))) → P.length = a → a + A.length = m → m + B.length = b → 0 < A.length → 0 < B.length → S.Sorted A → S.Sorted B →
      Calls Try.prog 25 #[.slice (some ⟨g, 0, none⟩) n cap, .int .i64 a, .int .i64 m, .int .i64 b, cmpV] w fun e w' => e = .returned (.tuple #[]) ∧ (∃ C, S.IsSort (A ++ B) C ∧ Own w' base g n cap (P ++ (C ++ T))) ∧ Below base w w')
    (w : World) (a m b : Nat) (P A B T : List Rw) (hK : A.length + B.length ≤ K + 1) (hown : Own w base g n cap (P ++ (A ++ (B ++ T)))) (ha : P.length = a) (hm : a + A.length = m) (hb : m + B.length = b) (hA1 : 2 ≤ A.length) (hB1 : 2 ≤ B.length) (hA : S.Sorted A) (hB : S.Sorted B) :
    Calls Try.prog 25 #[.slice (some ⟨g, 0, none⟩) n cap, .int .i64 a, .int .i64 m, .int .i64 b, cmpV] w fun e w' => e = .returned (.tuple #[]) ∧ (∃ C, S.IsSort (A ++ B) C ∧ Own w' base g n cap (P ++ (C ++ T))) ∧ Below base w w' := by
  have hn := hown.len
  have HO := Lib.hid hown
  simp only [List.length_append] at hn
  obtain ⟨la, hla⟩ : ∃ la, A.length = la := ⟨_, rfl⟩
  obtain ⟨lb, hlb⟩ : ∃ lb, B.length = lb := ⟨_, rfl⟩
  rw [hla] at hm hA1 hK
  rw [hlb] at hb hB1 hK
  have HA := Lib.hid (And.intro ha (And.intro hla hlb))
  have hA := Lib.hid hA
  have hB := Lib.hid hB
  have hbn : b ≤ n := by omega
  clear hown ha hn hla hlb
  obtain ⟨mid, hmid⟩ : ∃ mid, (a + b) / 2 = mid := ⟨_, rfl⟩
  obtain ⟨N, hN⟩ : ∃ N, mid + m = N := ⟨_, rfl⟩
  obtain ⟨p, hp⟩ : ∃ p, p + 1 = N := ⟨N - 1, by omega⟩
  go_enter Try.func25, Try.ntmps25
  have f0 : IntKind.i64.wrap ((m : Int) - (a : Int)) = (la : Int) := by rw [IntKind.wrap_i64] <;> omega
  have f0' : ((la : Int) == 1) = false := by rw [beq_eq_false_iff_ne]; omega
  have f9 : IntKind.i64.wrap ((b : Int) - (m : Int)) = (lb : Int) := by rw [IntKind.wrap_i64] <;> omega
  have f9' : ((lb : Int) == 1) = false := by rw [beq_eq_false_iff_ne]; omega
  have g1 : IntKind.i64.wrap ((a : Int) + (b : Int)) = (a : Int) + (b : Int) := by rw [IntKind.wrap_i64] <;> omega
  have g2 : ((a : Int) + (b : Int)) / 2 = (mid : Int) := by omega
  have g3 : IntKind.i64.wrap ((mid : Int) + (m : Int)) = (N : Int) := by rw [IntKind.wrap_i64] <;> omega
  have g4 : IntKind.i64.wrap ((N : Int) - 1) = (p : Int) := by rw [IntKind.wrap_i64] <;> omega
  go_upto_if 140 with fail
  go_cut [20, 21] from 138 to 146 (fun u v wc => ∃ s0 r0 : Nat, u = .int .i64 s0 ∧ v = .int .i64 r0 ∧ (a ≤ s0 ∧ s0 ≤ r0 ∧ r0 ≤ m ∧ m + r0 ≤ N ∧ N ≤ b + s0) ∧ (N = b + s0 ∨ s0 = a) ∧ (N = m + r0 ∨ r0 = m) ∧ w = wc)
  case first =>
    by_cases hc : mid < m
    · have hc' : (mid : Int) < (m : Int) := by omega
      have g5 : IntKind.i64.wrap ((N : Int) - (b : Int)) = ((N - b : Nat) : Int) := by rw [IntKind.wrap_i64] <;> omega
      go_wp2_with fail
      go_meet
      exact ⟨N - b, mid, rfl, rfl, by omega, by omega, by omega, rfl⟩
    · have hc' : ¬ (mid : Int) < (m : Int) := by omega
      go_wp2_with fail
      go_meet
      exact ⟨a, m, rfl, rfl, by omega, by omega, by omega, rfl⟩
  case rest =>
    obtain ⟨s0, r0, rfl, rfl, b1, b2, b3, rfl⟩ := hcut
    go_wp2_with fail
    go_loopw [20, 21] (fun u v wr => ∃ (s r : Nat), u = .int .i64 s ∧ v = .int .i64 r ∧ s0 ≤ s ∧ s ≤ r ∧ r ≤ r0 ∧ Hid ((s = s0 ∨ ∃ x y, (P ++ (A ++ (B ++ T)))[s - 1]? = some x ∧ (P ++ (A ++ (B ++ T)))[N - s]? = some y ∧ S.rlt y x = false) ∧ (r = r0 ∨ ∃ x y, (P ++ (A ++ (B ++ T)))[r]? = some x ∧ (P ++ (A ++ (B ++ T)))[p - r]? = some y ∧ S.rlt y x = true)) ∧ Hid (Own wr base g n cap (P ++ (A ++ (B ++ T)))) ∧ Hid (Below base w wr)) (fun u v _ => (intOf v).toNat - (intOf u).toNat)
    case atStart => exact ⟨s0, r0, rfl, rfl, by omega, by omega, by omega, ⟨.inl rfl, .inl rfl⟩, HO, Below.refl _ _⟩
    case round =>
      obtain ⟨s, r, rfl, rfl, hs0, hsr, hr0, HI, hr, hbr⟩ := hrel
      clear HO
      by_cases hlt : s < r
      · have hlt' : (s : Int) < (r : Int) := by omega
        obtain ⟨c, hh⟩ : ∃ c, (s + r) / 2 = c := ⟨_, rfl⟩
        obtain ⟨e, he⟩ : ∃ e, e + c = p := ⟨p - c, by omega⟩
        have f1 : IntKind.i64.wrap ((s : Int) + (r : Int)) = (s : Int) + (r : Int) := by rw [IntKind.wrap_i64] <;> omega
        have f2 : ((s : Int) + (r : Int)) / 2 = (c : Int) := by omega
        have f3 : IntKind.i64.wrap ((c : Int) + 1) = ((c + 1 : Nat) : Int) := by rw [IntKind.wrap_i64] <;> omega
        have f4 : IntKind.i64.wrap ((p : Int) - (c : Int)) = (e : Int) := by rw [IntKind.wrap_i64] <;> omega
        have hcA : c - a < A.length := by have := HA.out; omega
        have heB : e - m < B.length := by have := HA.out; omega
        have hx := mid_fst (R := B ++ T) HA.out.1 (show a ≤ c by omega) hcA
        have hy := mid_snd (A := A) (R := T) HA.out.1 (by have := HA.out.2.1; omega) (show m ≤ e by omega) heB
        generalize A[c - a]'hcA = x at *
        generalize B[e - m]'heB = y at *
        have HL := Lib.hid (And.intro hy hx)
        have i1 : (c : Int) < (n : Int) := by omega
        have i2 : (e : Int) < (n : Int) := by omega
        have i3 : (0 : Int) ≤ (c : Int) := by omega
        have i4 : (0 : Int) ≤ (e : Int) := by omega
        clear hx hy hcA heB
        have HR : S.rlt y x = decide (S.rcmp y x < 0) := rfl
        have HC : Hid (∀ W, Calls Try.prog 15 #[.agg #[.string (str y.1), .int .i64 y.2.1, .string (str y.2.2)], .agg #[.string (str x.1), .int .i64 x.2.1, .string (str x.2.2)]] W fun e w' => e = .returned (.int .i64 (S.rcmp y x)) ∧ Ext W w') := fun W => rcmp_any y x W
        generalize S.rcmp y x = ro at *
        have HR := Lib.hid HR
        go_wp2_with fail
        refine wp_region_mix ext_grow [(0, false), (1, false), (2, false), (3, false), (4, false), (5, false), (6, false), (7, false), (8, false), (9, false), (10, false), (11, false), (12, false), (13, false)] (by kernel_rfl) (by kernel_rfl) ?_
        have hr4 : Hid (Own wr.drew base g n cap (P ++ (A ++ (B ++ T)))) := World.ownsRow.drew hr.out
        have hb4 : Hid (Below base w wr.drew) := hbr.out.drew
        clear hr hbr 
        generalize wr.drew = w0 at *
        have q0 : ∀ z : Later w0, z.1.cell? ⟨g, e * 3, none⟩ = some (.string (str y.1)) := fun z => ((Own.pair (ownsRow.below hr4.out z.2) HL.out.1 HL.out.2).1).1
        have q1 : ∀ z : Later w0, z.1.cell? ⟨g, e * 3 + 1, none⟩ = some (.int .i64 y.2.1) := fun z => ((Own.pair (ownsRow.below hr4.out z.2) HL.out.1 HL.out.2).1).2.1
        have q2 : ∀ z : Later w0, z.1.cell? ⟨g, e * 3 + 2, none⟩ = some (.string (str y.2.2)) := fun z => ((Own.pair (ownsRow.below hr4.out z.2) HL.out.1 HL.out.2).1).2.2
        have p0 : ∀ z : Later w0, z.1.cell? ⟨g, c * 3, none⟩ = some (.string (str x.1)) := fun z => ((Own.pair (ownsRow.below hr4.out z.2) HL.out.1 HL.out.2).2).1
        have p1 : ∀ z : Later w0, z.1.cell? ⟨g, c * 3 + 1, none⟩ = some (.int .i64 x.2.1) := fun z => ((Own.pair (ownsRow.below hr4.out z.2) HL.out.1 HL.out.2).2).2.1
        have p2 : ∀ z : Later w0, z.1.cell? ⟨g, c * 3 + 2, none⟩ = some (.string (str x.2.2)) := fun z => ((Own.pair (ownsRow.below hr4.out z.2) HL.out.1 HL.out.2).2).2.2
        by_cases hlr : ro < 0
        · have HR' : Hid (S.rlt y x = true) := by unfold Hid; rw [HR.out]; simpa using hlr
          clear HR
          repeat (refine mix_soft rfl (fun K hK => ?_); go_simp; (first | (refine hK _ ?_; clear hK K) | (apply Exists.intro; refine ⟨fun x => ?_, hK _ ?_⟩; (first | (go_at_call 15; with_reducible exact HC.out _)); clear hK K)))
          clear p0 p1 p2 q0 q1 q2 HC
          refine mix_done fun w4 hb5 => ?_
          obtain ⟨hr5, hb6⟩ := hr4.out.go hb5
          have hr5 := Lib.hid hr5
          have hb7 := Lib.hid (hb4.out.trans hb6)
          clear hb5 hb6 hb4 hr4
          go_wp2_with fail
          exact ⟨⟨s, c, rfl, rfl, by omega, by omega, by omega, ⟨HI.out.1, .inr ⟨x, y, HL.out.2, by rw [show p - c = e by omega]; exact HL.out.1, HR'.out⟩⟩, hr5, hb7⟩, by simp only [intOf]; omega⟩
        · have HR' : Hid (S.rlt y x = false) := by unfold Hid; rw [HR.out]; simpa using hlr
          clear HR
          repeat (refine mix_soft rfl (fun K hK => ?_); go_simp; (first | (refine hK _ ?_; clear hK K) | (apply Exists.intro; refine ⟨fun x => ?_, hK _ ?_⟩; (first | (go_at_call 15; with_reducible exact HC.out _)); clear hK K)))
          clear p0 p1 p2 q0 q1 q2 HC
          refine mix_done fun w4 hb5 => ?_
          obtain ⟨hr5, hb6⟩ := hr4.out.go hb5
          have hr5 := Lib.hid hr5
          have hb7 := Lib.hid (hb4.out.trans hb6)
          clear hb5 hb6 hb4 hr4
          go_wp2_with fail
          exact ⟨⟨c + 1, r, rfl, rfl, by omega, by omega, by omega, ⟨.inr ⟨x, y, by rw [show c + 1 - 1 = c by omega]; exact HL.out.2, by rw [show N - (c + 1) = e by omega]; exact HL.out.1, HR'.out⟩, HI.out.2⟩, hr5, hb7⟩, by simp only [intOf]; omega⟩
      · have hlt' : ¬ (s : Int) < (r : Int) := by omega
        obtain ⟨e, he⟩ : ∃ e, e + s = N := ⟨N - s, by omega⟩
        have f1 : IntKind.i64.wrap ((N : Int) - (s : Int)) = (e : Int) := by rw [IntKind.wrap_i64] <;> omega
        obtain ⟨X, U, V, Y, HP, HZ, HS⟩ : ∃ X U V Y, Hid (A = X ++ U ∧ B = V ++ Y) ∧ Hid (a + X.length = s ∧ s + U.length = m ∧ m + V.length = e ∧ P.length + X.length = s ∧ e + Y.length = b ∧ a + X.length + V.length = mid ∧ mid + U.length = e ∧ P.length = a ∧ X.length + V.length ≤ K ∧ U.length + Y.length ≤ K)
            ∧ Hid (S.Sorted X ∧ S.Sorted V ∧ S.Sorted U ∧ S.Sorted Y ∧ (∀ u ∈ U, ∀ v ∈ V, S.rlt v u = true) ∧ (∀ x ∈ X, ∀ y ∈ Y, S.rlt y x = false)) := by
          obtain ⟨h1, h2, h3⟩ := HA.out
          refine ⟨A.take (s - a), A.drop (s - a), B.take (e - m), B.drop (e - m), ⟨(List.take_append_drop _ _).symm, (List.take_append_drop _ _).symm⟩, ?_, ?_⟩
          · unfold Hid
            simp only [List.length_take, List.length_drop]
            omega
          · have k1 := hA.out
            have k2 := hB.out
            rw [← List.take_append_drop (s - a) A] at k1
            rw [← List.take_append_drop (e - m) B] at k2
            refine ⟨(S.sorted_append.1 k1).1, (S.sorted_append.1 k2).1, (S.sorted_append.1 k1).2.1, (S.sorted_append.1 k2).2.1, ?_, ?_⟩
            · refine S.parts_vu hA.out hB.out (by omega) (by omega) fun j1 j2 => ?_
              rcases HI.out.2 with h | ⟨x, y, q1, q2, q3⟩
              · exfalso; omega
              · rw [show r = s by omega] at q1 q2
                have hx := mid_fst (A := A) (R := B ++ T) h1 (show a ≤ s by omega) j1
                have hy := mid_snd (P := P) (A := A) (B := B) (R := T) (i := p - s) h1 (by omega) (show m ≤ p - s by omega) (by omega)
                rw [q1] at hx
                rw [q2] at hy
                have e1 := Option.some.inj hx
                have e2 := Option.some.inj hy
                have e3 : B[e - m - 1]'(by omega) = B[p - s - m]'(by omega) := by congr 1; omega
                rw [e3, ← e2, ← e1]
                exact q3
            · refine S.parts_xy hA.out hB.out (by omega) fun j1 j2 => ?_
              rcases HI.out.1 with h | ⟨x, y, q1, q2, q3⟩
              · exfalso; omega
              · have hx := mid_fst (A := A) (R := B ++ T) (i := s - 1) h1 (show a ≤ s - 1 by omega) (by omega)
                have hy := mid_snd (P := P) (A := A) (B := B) (R := T) (i := N - s) h1 (by omega) (show m ≤ N - s by omega) (by omega)
                rw [q1] at hx
                rw [q2] at hy
                have e1 := Option.some.inj hx
                have e2 := Option.some.inj hy
                have e3 : B[e - m]'(by omega) = B[N - s - m]'(by omega) := by congr 1; omega
                have e4 : A[s - a - 1]'(by omega) = A[s - 1 - a]'(by omega) := by congr 1; omega
                rw [e3, e4, ← e2, ← e1]
                exact q3
        have hr' : Hid (Own wr base g n cap (P ++ (X ++ (U ++ (V ++ (Y ++ T)))))) := by
          have := hr.out
          rw [HP.out.1, HP.out.2] at this
          unfold Hid
          simpa using this
        have hr := hr'
        clear hr' HI
        go_upto_region 39 with fail
        go_cut [185] from 178 to 184 (fun c wx => ∃ q : Bool, c = .bool q ∧ (q = true ↔ s < m ∧ s < mid) ∧ wr = wx)
        case first =>
          have hz := HZ.out
          by_cases k1 : s < m
          · have k1' : (s : Int) < (m : Int) := by omega
            by_cases k2 : m < e
            · have k2' : (m : Int) < (e : Int) := by omega
              go_wp2_with fail
              go_meet
              exact ⟨true, rfl, ⟨(fun _ => by omega), (fun _ => rfl)⟩, rfl⟩
            · have k2' : ¬ (m : Int) < (e : Int) := by omega
              go_wp2_with fail
              go_meet
              exact ⟨false, rfl, ⟨(fun h => by cases h), (fun h => by omega)⟩, rfl⟩
          · have k1' : ¬ (s : Int) < (m : Int) := by omega
            go_wp2_with fail
            go_meet
            exact ⟨false, rfl, ⟨(fun h => by cases h), (fun h => by omega)⟩, rfl⟩
        case rest =>
          obtain ⟨q, rfl, hq, rfl⟩ := hcut
          go_upto_if 185 with fail
          go_cut [] from 186 to 191 (fun wx => Hid (Own wx base g n cap (P ++ ((X ++ V) ++ (U ++ (Y ++ T))))) ∧ Hid (Below base w wx))
          case first =>
            cases q with
            | true =>
              have hq := hq.1 rfl
              have HR := Lib.hid (fun W (h : Own W base g n cap ((P ++ X) ++ (U ++ (V ++ (Y ++ T))))) => rotate_any W base g n cap s m e cmpV (P ++ X) U V (Y ++ T) hbase h (by have := HZ.out.2.2.2.1; simp; omega) (by have := HZ.out; omega) (by have := HZ.out; omega) (by have := HZ.out; omega) (by have := HZ.out; omega))
              go_wp2_with fail
              refine (HR.out _ (by have := hr.out; simpa using this)).mono ?_
              rintro e1 w1 ⟨rfl, ho1, hb1⟩
              have hr1 : Hid (Own w1 base g n cap (P ++ ((X ++ V) ++ (U ++ (Y ++ T))))) := by unfold Hid; simpa using ho1
              have hb1 := Lib.hid (hbr.out.trans hb1)
              clear ho1 HR hr hbr
              go_wp2_with fail
              go_meet
              exact ⟨hr1, hb1⟩
            | false =>
              have hr1 : Hid (Own wr base g n cap (P ++ ((X ++ V) ++ (U ++ (Y ++ T))))) := by
                have := hr.out
                have hz := HZ.out
                by_cases k : s < m
                · have h0 : V = [] := List.eq_nil_of_length_eq_zero (by rcases Nat.lt_or_ge s mid with h | h; exact absurd (hq.2 ⟨k, h⟩) (by decide); omega)
                  rw [h0] at this ⊢
                  unfold Hid
                  simpa using this
                · have h0 : U = [] := List.eq_nil_of_length_eq_zero (by omega)
                  rw [h0] at this ⊢
                  unfold Hid
                  simpa using this
              clear hr
              go_wp2_with fail
              go_meet
              exact ⟨hr1, hbr⟩
          case rest =>
            obtain ⟨hr1, hb1⟩ := hcut
            clear hr hbr hq
            go_upto_region 41 with fail
            go_cut [199] from 192 to 198 (fun c wx => ∃ q : Bool, c = .bool q ∧ (q = true ↔ a < s ∧ s < mid) ∧ wc = wx)
            case first =>
              have hz := HZ.out
              by_cases k1 : a < s
              · have k1' : (a : Int) < (s : Int) := by omega
                by_cases k2 : s < mid
                · have k2' : (s : Int) < (mid : Int) := by omega
                  go_wp2_with fail
                  go_meet
                  exact ⟨true, rfl, ⟨(fun _ => by omega), (fun _ => rfl)⟩, rfl⟩
                · have k2' : ¬ (s : Int) < (mid : Int) := by omega
                  go_wp2_with fail
                  go_meet
                  exact ⟨false, rfl, ⟨(fun h => by cases h), (fun h => by omega)⟩, rfl⟩
              · have k1' : ¬ (a : Int) < (s : Int) := by omega
                go_wp2_with fail
                go_meet
                exact ⟨false, rfl, ⟨(fun h => by cases h), (fun h => by omega)⟩, rfl⟩
            case rest =>
              obtain ⟨q, rfl, hq, rfl⟩ := hcut
              go_upto_if 199 with fail

              go_cut [] from 200 to 205 (fun wx => ∃ C, Hid (S.IsSort (X ++ V) C) ∧ Hid (Own wx base g n cap (P ++ (C ++ (U ++ (Y ++ T))))) ∧ Hid (Below base w wx))
              case first =>
                cases q with
                | true =>
                  have hq := hq.1 rfl
                  have HR := Lib.hid (fun W (h : Own W base g n cap (P ++ (X ++ (V ++ (U ++ (Y ++ T)))))) => ih W a s mid P X V (U ++ (Y ++ T)) (by have := HZ.out; omega) h (by have := HZ.out; omega) (by have := HZ.out; omega) (by have := HZ.out; omega) (by have := HZ.out; omega) (by have := HZ.out; omega) HS.out.1 HS.out.2.1)
                  go_wp2_with fail
                  refine (HR.out _ (by have := hr1.out; simpa using this)).mono ?_
                  rintro e2 w2 ⟨rfl, ⟨C, hC, ho2⟩, hb2⟩
                  have hr2 := Lib.hid ho2
                  have hb2 := Lib.hid (hb1.out.trans hb2)
                  have hC := Lib.hid hC
                  clear ho2 HR hr1 hb1
                  go_wp2_with fail
                  go_meet
                  exact ⟨C, hC, hr2, hb2⟩
                | false =>
                  have hC : Hid (S.IsSort (X ++ V) (X ++ V)) := S.IsSort.self (by
                    have hz := HZ.out
                    by_cases k : a < s
                    · have h0 : V = [] := List.eq_nil_of_length_eq_zero (by rcases Nat.lt_or_ge s mid with h | h; exact absurd (hq.2 ⟨k, h⟩) (by decide); omega)
                      rw [h0]; simpa using HS.out.1
                    · have h0 : X = [] := List.eq_nil_of_length_eq_zero (by omega)
                      rw [h0]; simpa using HS.out.2.1)
                  go_wp2_with fail
                  go_meet
                  exact ⟨X ++ V, hC, hr1, hb1⟩
              case rest =>
                obtain ⟨C, hC, hr2, hb2⟩ := hcut
                clear hr1 hb1 hq
                have hCl : Hid ((P ++ C).length = mid) := by have h1 := hC.out.len; have h2 := HZ.out; unfold Hid; simp at h1 ⊢; omega
                go_upto_region 43 with fail
                go_cut [213] from 206 to 212 (fun c wx => ∃ q : Bool, c = .bool q ∧ (q = true ↔ s < m ∧ e < b) ∧ wc = wx)
                case first =>
                  have hz := HZ.out
                  by_cases k1 : mid < e
                  · have k1' : (mid : Int) < (e : Int) := by omega
                    by_cases k2 : e < b
                    · have k2' : (e : Int) < (b : Int) := by omega
                      go_wp2_with fail
                      go_meet
                      exact ⟨true, rfl, ⟨(fun _ => by omega), (fun _ => rfl)⟩, rfl⟩
                    · have k2' : ¬ (e : Int) < (b : Int) := by omega
                      go_wp2_with fail
                      go_meet
                      exact ⟨false, rfl, ⟨(fun h => by cases h), (fun h => by omega)⟩, rfl⟩
                  · have k1' : ¬ (mid : Int) < (e : Int) := by omega
                    go_wp2_with fail
                    go_meet
                    exact ⟨false, rfl, ⟨(fun h => by cases h), (fun h => by omega)⟩, rfl⟩
                case rest =>
                  obtain ⟨q, rfl, hq, rfl⟩ := hcut
                  go_upto_if 213 with fail

                  cases q with
                  | true =>
                    have hq := hq.1 rfl
                    have HR := Lib.hid (fun W (h : Own W base g n cap ((P ++ C) ++ (U ++ (Y ++ T)))) => ih W mid e b (P ++ C) U Y T (by have := HZ.out; omega) h hCl.out (by have := HZ.out; omega) (by have := HZ.out; omega) (by have := HZ.out; omega) (by have := HZ.out; omega) HS.out.2.2.1 HS.out.2.2.2.1)
                    go_wp2_with fail
                    refine (HR.out _ (by have := hr2.out; simpa using this)).mono ?_
                    rintro e3 w3 ⟨rfl, ⟨D, hD, ho3⟩, hb3⟩
                    have hr3 : Hid (Own w3 base g n cap (P ++ ((C ++ D) ++ T))) := by unfold Hid; simpa using ho3
                    have hb3 := Lib.hid (hb2.out.trans hb3)
                    have hD := Lib.hid hD
                    clear ho3 HR hr2 hb2
                    go_wp2_with fail
                    go_end0
                    refine ⟨rfl, ⟨_, ?_, hr3.out⟩, hb3.out⟩
                    rw [HP.out.1, HP.out.2]
                    exact S.halves (by rw [← HP.out.1]; exact hA.out) (by rw [← HP.out.2]; exact hB.out) HS.out.2.2.2.2.1 HS.out.2.2.2.2.2 hC.out hD.out
                  | false =>
                    have hD : Hid (S.IsSort (U ++ Y) (U ++ Y)) := S.IsSort.self (by
                      have hz := HZ.out
                      by_cases k : s < m
                      · have h0 : Y = [] := List.eq_nil_of_length_eq_zero (by rcases Nat.lt_or_ge e b with h | h; exact absurd (hq.2 ⟨k, h⟩) (by decide); omega)
                        rw [h0]; simpa using HS.out.2.2.1
                      · have h0 : U = [] := List.eq_nil_of_length_eq_zero (by omega)
                        rw [h0]; simpa using HS.out.2.2.2.1)
                    have hr3 : Hid (Own wc base g n cap (P ++ ((C ++ (U ++ Y)) ++ T))) := by have := hr2.out; unfold Hid; simpa using this
                    go_wp2_with fail
                    go_end0
                    refine ⟨rfl, ⟨_, ?_, hr3.out⟩, hb2.out⟩
                    rw [HP.out.1, HP.out.2]
                    exact S.halves (by rw [← HP.out.1]; exact hA.out) (by rw [← HP.out.2]; exact hB.out) HS.out.2.2.2.2.1 HS.out.2.2.2.2.2 hC.out hD.out
end Go.Proofs.Ytgipmbphbcnhcaa
