/- What merge.Union returns: the rows in order, so many at most. -/
import Derived.Test.YtgipmbphbcnhcaaRwWith
namespace Go.Proofs.Ytgipmbphbcnhcaa
open Go Go.RowKit

/-- The value v reads as the lists of rows. -/
def Vs (w : World) (v : Value) (rows : List (List Rw)) : Prop := ∃ us : List Value, Sl w 1 rows.length v us ∧ ∀ i (h : i < us.length) (h2 : i < rows.length), Rs w us[i] rows[i]
theorem Vs.below {w w' : World} {v : Value} {rows : List (List Rw)} (h : Vs w v rows) (hb : Below w.heap.size w w') : Vs w' v rows := by
  obtain ⟨us, h1, h2⟩ := h
  exact ⟨us, h1.below hb, fun i a b => Three.Ss.below (h2 i a b) hb⟩
theorem Vs.shape {w : World} {v : Value} {rows : List (List Rw)} (h : Vs w v rows) : ∃ ao cap, v = .slice ao rows.length cap ∧ rows.length ≤ cap := by
  obtain ⟨us, h1, -⟩ := h
  exact h1.shape
theorem Vs.len {w : World} {v : Value} {rows : List (List Rw)} (h : Vs w v rows) : rows.length ≤ 9223372036854775807 := by
  obtain ⟨us, ⟨_, ao, cap, _, h1, h2, _⟩, -⟩ := h
  unfold maxLen at h2
  omega
theorem Vs.nil (w : World) : Vs w (.slice none 0 0) [] := ⟨[], Sl.nil w 1, fun i h => by simp at h⟩
theorem Vs.at {w : World} {ao : Option Addr} {n cap : Nat} {rows : List (List Rw)} (h : Vs w (.slice ao n cap) rows) {j : Nat} (hj : j < rows.length) :
    ∃ b off u, ao = some ⟨b, off, none⟩ ∧ Rs w u rows[j] ∧ ∀ W, Below w.heap.size w W → W.cell? ⟨b, off + j, none⟩ = some u := by
  obtain ⟨us, h1, h2⟩ := h
  have hl : us.length = rows.length := by rw [h1.1, Nat.mul_one]
  obtain ⟨b, off, e, hc⟩ := h1.at (j := j) (by omega)
  subst e
  refine ⟨b, off, us[j], rfl, h2 j (by omega) hj, fun W hW => ?_⟩
  obtain ⟨b', off', e, hc⟩ := (h1.below hW).at (j := j) (by omega)
  obtain ⟨rfl, rfl⟩ : b = b' ∧ off = off' := by simpa using e
  exact hc j (by omega)
theorem infoRws : (Try.prog.info? 25).map (fun i => (i.zero, i.size, i.bytes)) = some (some (.slice none 0 0), 1, 24) := by kernel_rfl
theorem run_vtake {w : World} {ao : Option Addr} {n cap : Nat} {rows : List (List Rw)} (h : Vs w (.slice ao n cap) rows) (k : Nat) (hk : k ≤ rows.length) :
    ∃ v', Vs w v' (rows.take k) ∧ ∀ W, (Instr.slice 22 (.slice ao n cap) none (some (.int .i64 k)) none).run Try.prog W = .ok v' W := by
  obtain ⟨us, h1, h2⟩ := h
  obtain ⟨hl, ao', cap', e, -⟩ := id h1
  obtain ⟨-, rfl, -⟩ := Value.slice.inj e
  obtain ⟨v', h3, h4⟩ := run_take (P := Try.prog) (t := 22) Try.underlying22 infoRws h1 .i64 k hk
  refine ⟨v', ⟨us.take (k * 1), by rw [List.length_take, Nat.min_eq_left hk]; exact h3, fun i a b => ?_⟩, h4⟩
  rw [List.getElem_take, List.getElem_take]
  exact h2 i (by rw [List.length_take] at a; omega) (by rw [List.length_take] at b; omega)
theorem run_vdrop {w : World} {ao : Option Addr} {n cap : Nat} {rows : List (List Rw)} (h : Vs w (.slice ao n cap) rows) (k : Nat) (hk : k ≤ rows.length) :
    ∃ v', Vs w v' (rows.drop k) ∧ ∀ W, (Instr.slice 22 (.slice ao n cap) (some (.int .i64 k)) none none).run Try.prog W = .ok v' W := by
  obtain ⟨us, h1, h2⟩ := h
  obtain ⟨hl, ao', cap', e, -⟩ := id h1
  obtain ⟨-, rfl, -⟩ := Value.slice.inj e
  obtain ⟨v', h3, h4⟩ := run_drop (P := Try.prog) (t := 22) Try.underlying22 infoRws h1 .i64 k hk
  rw [Nat.mul_one] at h3
  refine ⟨v', ⟨us.drop k, by rw [List.length_drop]; exact h3, fun i a b => ?_⟩, h4⟩
  rw [List.getElem_drop, List.getElem_drop]
  exact h2 (k + i) (by rw [List.length_drop] at a; omega) (by rw [List.length_drop] at b; omega)

namespace S
theorem flat_step {α : Type} {rows : List (List α)} {i : Nat} (h : i < rows.length) : (rows.take (i + 1)).flatten = (rows.take i).flatten ++ rows[i] := by
  rw [List.take_succ_eq_append_getElem h, List.flatten_append]; simp only [List.flatten_cons, List.flatten_nil, List.append_nil]
theorem flat_len {α : Type} {rows : List (List α)} {i : Nat} (h : i < rows.length) : (rows.take i).flatten.length + rows[i].length ≤ rows.flatten.length := by
  have e : rows.flatten = (rows.take i).flatten ++ (rows.drop i).flatten := by rw [← List.flatten_append, List.take_append_drop]
  rw [e, List.drop_eq_getElem_cons h, List.flatten_cons]
  simp only [List.length_append]
  omega
theorem row_len {α : Type} {rows : List (List α)} {i : Nat} (h : i < rows.length) : rows[i].length ≤ rows.flatten.length := by
  have := flat_len h
  omega
/-- How many are returned. -/
def upto (most : Int) (n : Nat) : Nat := min most.toNat n
end S

/-- Where the rows lie, of the value that Clone returns. -/
theorem own_shape {w : World} {base n : Nat} {v : Value} {l : List Rw} (h : w.ownsRow base 29 3 v n (RW.cells l)) (hn : 0 < n) : ∃ g cap, v = .slice (some ⟨g, 0, none⟩) n cap := by
  rcases h.2 with ⟨rfl, rfl⟩ | ⟨g, cap, cur, rfl, -⟩
  · omega
  · exact ⟨g, cap, rfl⟩

set_option maxRecDepth 4000 in
set_option maxHeartbeats 4000000 in
theorem union_any (v : Value) (rows : List (List Rw)) (most : Int) (w : World) (h : Vs w v rows) (hl : rows.flatten.length ≤ 100000) :
    Calls Try.prog 8 #[v, .int .i64 most] w fun e w' => ∃ v' C, e = .returned v' ∧ S.IsSort rows.flatten C ∧ Rs w' v' (C.take (S.upto most C.length)) ∧ Below w.heap.size w w' := by
  obtain ⟨ao, cap, rfl, -⟩ := h.shape
  have hbig := h.len
  have HV := Lib.hid h
  clear h
  obtain ⟨n, hn⟩ : ∃ n, rows.length = n := ⟨_, rfl⟩
  rw [hn] at HV hbig ⊢
  have HN := Lib.hid hn
  clear hn
  go_enter Try.func8, Try.ntmps8
  go_wp2_with fail
  go_loopw [5, 12] (fun t u wr => ∃ (i : Nat) (C : List Rw), i ≤ n ∧ u = .int .i64 i ∧ Hid (Rs wr t C) ∧ Hid (S.IsSort (rows.take i).flatten C) ∧ Hid (Below w.heap.size w wr)) (fun _ u _ => n - (intOf u).toNat)
  case atStart => exact ⟨0, [], by omega, rfl, Three.Ss.nil _, S.IsSort.self (by exact List.Pairwise.nil), Below.refl _ _⟩
  case round =>
    obtain ⟨i, C, hi, rfl, HR, HI, hbr⟩ := hrel
    by_cases hin : i < n
    · have hin' : (i : Int) < (n : Int) := by omega
      obtain ⟨b, off, x, rfl, hx, hc⟩ := HV.out.at (j := i) (by rw [HN.out]; exact hin)
      have hcx := hc wr hbr.out
      have HX := Lib.hid (Three.Ss.below hx hbr.out)
      have hlx : (rows[i]'(by rw [HN.out]; exact hin)).length ≤ 100000 := Nat.le_trans (S.row_len _) hl
      have hfl : (rows.take i).flatten.length + (rows[i]'(by rw [HN.out]; exact hin)).length ≤ 100000 := Nat.le_trans (S.flat_len _) hl
      have HST : Hid ((rows.take (i + 1)).flatten = (rows.take i).flatten ++ (rows[i]'(by rw [HN.out]; exact hin))) := S.flat_step _
      rw [← HI.out.len] at hfl
      obtain ⟨l, hll⟩ : ∃ l, (rows[i]'(by rw [HN.out]; exact hin)) = l := ⟨_, rfl⟩
      rw [hll] at HX hlx hfl HST
      clear hll hx hc
      have s := Lib.hid (rclone_any x l wr HX.out hlx)
      go_wp2_with fail
      refine s.out.mono ?_
      rintro e w2 ⟨v2, rfl, ho2, hb2⟩
      clear s HX
      have HO2 := Lib.hid ho2
      have hbr2 := Lib.hid (below_next hbr.out hb2)
      have HB2 := Lib.hid hb2
      have s := Lib.hid (rsorted_any v2 l w2 (Three.Ss.of_owns ho2) (by omega))
      clear ho2 hb2
      go_wp2_with fail
      refine s.out.mono ?_
      rintro e w3 ⟨bb, rfl, hbt, hbf, hb3⟩
      clear s
      have HO3 := Lib.hid (ownsRow.below HO2.out hb3)
      have hbr3 := Lib.hid (below_next hbr2.out hb3)
      have HB3 := Lib.hid (below_next HB2.out hb3)
      have hwr : Hid (w.heap.size ≤ wr.heap.size) := hbr.out.size
      clear HO2 hbr2 HB2 hb3
      have HTail : Hid (∀ (D : List Rw) (W : World), S.IsSort l D → Rs W v2 D → Rs W u5 C → Calls Try.prog 17 #[u5, v2] W fun e w' => ∃ v' E, e = .returned v' ∧ S.IsSort (rows.take (i + 1)).flatten E ∧ Rs w' v' E ∧ Below W.heap.size W w') := fun D W hD h1 h2 => by
        refine (with_any u5 v2 C D W h2 h1 HI.out.sorted hD.sorted (by have := hD.len; omega)).mono ?_
        rintro e w' ⟨v', E, rfl, hE, ho, hb⟩
        exact ⟨v', E, rfl, by rw [HST.out]; exact HI.out.of_parts hD hE, Three.Ss.of_owns ho, hb⟩
      clear HST hfl
      cases bb with
      | true =>
        have s := Lib.hid (HTail.out l w3 (S.IsSort.self (hbt rfl)) (Three.Ss.of_owns HO3.out) (Three.Ss.below HR.out HB3.out))
        clear HTail hbt hbf HO3 HR HB3 hwr
        go_wp2_with fail
        refine s.out.mono ?_
        rintro e w5 ⟨v5, E, rfl, hE, h5, hb5⟩
        have hbr5 := Lib.hid (below_next hbr3.out hb5)
        have HE := Lib.hid hE
        have H5 := Lib.hid h5
        clear s hb5 hE h5 hbr3 hbr
        go_wp2_with fail
        go_roundw
        case rel => exact ⟨i + 1, E, by omega, by go_num, H5, HE, hbr5⟩
        case measure => simp [intOf]; omega
      | false =>
        obtain ⟨g, cp, rfl⟩ := own_shape HO3.out (hbf rfl)
        have s := Lib.hid (sortstable_any w3 wr.heap.size g l.length cp l (by omega) HO3.out)
        clear hbt hbf HO3
        go_wp2_with fail
        refine s.out.mono ?_
        rintro e w4 ⟨rfl, ⟨D, hD, ho4⟩, hb4⟩
        have hbr4 : Hid (Below w.heap.size w w4) := hbr3.out.trans (hb4.mono hwr.out)
        have s := Lib.hid (HTail.out D w4 hD (Three.Ss.of_owns (n := l.length) ho4) (Three.Ss.below HR.out (HB3.out.trans hb4)))
        clear HTail HR HB3 hwr hb4 ho4 hbr3 hbr hD
        go_wp2_with fail
        refine s.out.mono ?_
        rintro e w5 ⟨v5, E, rfl, hE, h5, hb5⟩
        have hbr5 := Lib.hid (below_next hbr4.out hb5)
        have HE := Lib.hid hE
        have H5 := Lib.hid h5
        clear s hb5 hE h5 hbr4
        go_wp2_with fail
        go_roundw
        case rel => exact ⟨i + 1, E, by omega, by go_num, H5, HE, hbr5⟩
        case measure => simp [intOf]; omega
    · have HF := Lib.hid (show (rows.take i).flatten = rows.flatten by rw [List.take_of_length_le (by rw [HN.out]; omega)])
      rw [HF.out] at HI
      obtain ⟨a5, c5, rfl, -⟩ := HR.out.shape
      have hlen := HR.out.len
      have hm0 : most ≤ 9223372036854775807 → True := fun _ => trivial
      obtain ⟨k, hk⟩ : ∃ k, S.upto most C.length = k := ⟨_, rfl⟩
      have hkl : k ≤ C.length := by rw [← hk]; exact Nat.min_le_right _ _
      obtain ⟨vt, hvt, hrt⟩ := run_take (P := Try.prog) (t := 33) Try.underlying33 infoRw HR.out .i64 k hkl
      have HT : Hid (Rs wr vt (C.take (S.upto most C.length))) := by
        rw [RW.cells_take] at hvt
        unfold Hid Rs Three.Ss
        rw [hk, List.length_take, Nat.min_eq_left hkl]
        exact hvt
      clear hvt HF HR hm0
      obtain ⟨c, hc⟩ : ∃ c, C.length = c := ⟨_, rfl⟩
      unfold S.upto at hk
      rw [hc] at hk hkl hlen hrt ⊢
      by_cases h1 : 0 < most
      · by_cases h2 : most ≤ (c : Int)
        · have hkm : (k : Int) = most := by omega
          rw [hkm] at hrt
          go_wp2_with fail
          go_ret
          first | exact ⟨vt, C, rfl, HI.out, HT.out, hbr.out⟩ | exact ⟨vt, rfl, C, HI.out, HT.out, hbr.out⟩
        · obtain rfl : k = c := by omega
          go_wp2_with fail
          go_ret
          first | exact ⟨vt, C, rfl, HI.out, HT.out, hbr.out⟩ | exact ⟨vt, rfl, C, HI.out, HT.out, hbr.out⟩
      · obtain rfl : k = 0 := by omega
        rw [show ((0 : Nat) : Int) = 0 from rfl] at hrt
        by_cases h2 : most = 0
        · subst h2
          go_wp2_with fail
          go_ret
          first | exact ⟨vt, C, rfl, HI.out, HT.out, hbr.out⟩ | exact ⟨vt, rfl, C, HI.out, HT.out, hbr.out⟩
        · have h3 : most < 0 := by omega
          clear h1 h2
          go_wp2_with fail
          go_ret
          first | exact ⟨vt, C, rfl, HI.out, HT.out, hbr.out⟩ | exact ⟨vt, rfl, C, HI.out, HT.out, hbr.out⟩
end Go.Proofs.Ytgipmbphbcnhcaa
