/- What jalousieref03.Join, turned and Meet return. -/
import Derived.Test.YtljpfocmnppjgaaDoorEq
import Derived.Test.YtljpfocmnppjgaaDoorLat2
namespace Go.Proofs.YtljpfocmnppjgaaDoor
open Go Go.RowKit

namespace L
/-- Whether c is above both, and flows to those of the first j that are. -/
def fineAt (us : List Nat) (a b : Int) (c j : Nat) : Bool := above us a b c && (List.range j).all fun d => !above us a b d || leq us c d
theorem fineAt_zero (us : List Nat) (a b : Int) (c : Nat) : fineAt us a b c 0 = above us a b c := by simp [fineAt]
theorem fineAt_succ (us : List Nat) (a b : Int) (c j : Nat) : fineAt us a b c (j + 1) = (fineAt us a b c j && (!above us a b j || leq us c j)) := by
  simp [fineAt, List.range_succ, Bool.and_assoc]
theorem fineAt_false {us : List Nat} {a b : Int} {c j n : Nat} (h : fineAt us a b c j = false) (hj : j ≤ n) : fineAt us a b c n = false := by
  obtain ⟨m, rfl⟩ : ∃ m, n = j + m := ⟨n - j, by omega⟩
  clear hj
  induction m with
  | zero => exact h
  | succ m ih => rw [← Nat.add_assoc, fineAt_succ, ih]; rfl
theorem join_eq (us : List Nat) (a b : Int) : join us a b = first us.length fun c => fineAt us a b c us.length := rfl
theorem first_hit {n k : Nat} {p : Nat → Bool} (hk : k < n) (h1 : ∀ c, c < k → p c = false) (h2 : p k = true) : first n p = k := by
  unfold first
  have : (List.range n).find? p = some k := by
    obtain ⟨m, rfl⟩ : ∃ m, n = k + 1 + m := ⟨n - k - 1, by omega⟩
    rw [List.range_add, List.find?_append, List.range_succ, List.find?_append, List.find?_eq_none.2 (fun c hc => by rw [h1 c (List.mem_range.1 hc)]; decide)]
    simp [h2]
  rw [this]
  rfl
end L

set_option maxHeartbeats 1000000 in
theorem refJoin_any (v : Value) (us : List Nat) (a b : Int) (w : World) (hv : Us w v us) (hu : U64s us) :
    Calls Tryd.prog 45 #[v, .int .i64 a, .int .i64 b] w fun e w' => e = .returned (.int .i64 (L.join us a b)) ∧ w = w' := by
  obtain ⟨ao, cap, rfl, -⟩ := hv.shape
  have hbig := hv.len
  have HQ := Lib.hid (fun (c d : Int) => refLeq_any _ us c d w hv hu)
  clear hv hu
  go_enter Tryd.func45, Tryd.ntmps45
  go_wp2_with fail
  go_loop [7] (fun i => ∃ k : Nat, k ≤ us.length ∧ i = .int .i64 k ∧ Hid (∀ c, c < k → L.fineAt us a b c us.length = false)) (fun i => us.length - (intOf i).toNat)
  case atStart => exact ⟨0, by omega, rfl, fun c hc => absurd hc (Nat.not_lt_zero _)⟩
  case round =>
    obtain ⟨k, hk, rfl, hno⟩ := hrel
    by_cases hlt : k < us.length
    · go_wp2_with fail
      refine (HQ.out a k).mono ?_
      rintro e w' ⟨rfl, rfl⟩
      have h0 : Hid (L.fineAt us a b k 0 = (L.leq us a k && L.leq us b k)) := L.fineAt_zero us a b k
      cases hA : L.leq us a k with
      | false =>
        rw [hA] at h0
        have hno1 : Hid (∀ c, c < k + 1 → L.fineAt us a b c us.length = false) := fun c hc => by
          by_cases he : c = k
          · subst he; exact L.fineAt_false (j := 0) (by rw [h0.out]; rfl) (Nat.zero_le _)
          · exact hno.out c (by omega)
        clear h0 hno hA
        go_wp2_with fail
        go_loop [8, 9] (fun t i => t = .bool false ∧ i = .int .i64 0) (fun _ i => (intOf i).toNat)
        case atStart => exact ⟨rfl, rfl⟩
        case round =>
          obtain ⟨rfl, rfl⟩ := hrel
          go_wp2_with fail
          go_round
          case rel => exact ⟨k + 1, by omega, by go_num, hno1⟩
          case measure => simp [intOf]; omega
      | true =>
        rw [hA, Bool.true_and] at h0
        clear hA
        go_wp2_with fail
        refine (HQ.out b k).mono ?_
        rintro e w' ⟨rfl, rfl⟩
        obtain ⟨B, hB⟩ : ∃ B, L.leq us b k = B := ⟨_, rfl⟩
        rw [hB] at h0 ⊢
        clear hB
        go_wp2_with fail
        go_loop [8, 9] (fun t i => ∃ j : Nat, j ≤ us.length ∧ i = .int .i64 j ∧ t = .bool (L.fineAt us a b k j)) (fun _ i => us.length - (intOf i).toNat)
        case atStart => exact ⟨0, by omega, rfl, by rw [h0.out]⟩
        case round =>
          obtain ⟨j, hj, rfl, rfl⟩ := hrel
          by_cases hjl : j < us.length
          · have hs := Lib.hid (L.fineAt_succ us a b k j)
            cases hF : L.fineAt us a b k j with
            | false =>
              have hno1 : Hid (∀ c, c < k + 1 → L.fineAt us a b c us.length = false) := fun c hc => by
                by_cases he : c = k
                · subst he; exact L.fineAt_false hF hj
                · exact hno.out c (by omega)
              clear h0 hno hF hs
              go_wp2_with fail
              go_round
              case rel => exact ⟨k + 1, by omega, by go_num, hno1⟩
              case measure => simp [intOf]; omega
            | true =>
              rw [hF, Bool.true_and] at hs
              clear hF h0
              go_wp2_with fail
              refine (HQ.out a j).mono ?_
              rintro e w' ⟨rfl, rfl⟩
              cases hA : L.leq us a j with
              | false =>
                have hs1 : Hid (L.fineAt us a b k (j + 1) = true) := by unfold Hid; rw [hs.out]; unfold L.above; rw [hA]; rfl
                clear hs hA
                go_wp2_with fail
                go_round
                case rel => exact ⟨j + 1, by omega, by go_num, by rw [hs1.out]⟩
                case measure => simp [intOf]; omega
              | true =>
                go_wp2_with fail
                refine (HQ.out b j).mono ?_
                rintro e w' ⟨rfl, rfl⟩
                cases hB : L.leq us b j with
                | false =>
                  have hs1 : Hid (L.fineAt us a b k (j + 1) = true) := by unfold Hid; rw [hs.out]; unfold L.above; rw [hA, hB]; rfl
                  clear hs hA hB
                  go_wp2_with fail
                  go_round
                  case rel => exact ⟨j + 1, by omega, by go_num, by rw [hs1.out]⟩
                  case measure => simp [intOf]; omega
                | true =>
                  have hs1 : Hid (L.fineAt us a b k (j + 1) = L.leq us k j) := by unfold Hid; rw [hs.out]; unfold L.above; rw [hA, hB]; rfl
                  clear hs hA hB
                  go_wp2_with fail
                  refine (HQ.out k j).mono ?_
                  rintro e w' ⟨rfl, rfl⟩
                  obtain ⟨C, hC⟩ : ∃ C, L.leq us k j = C := ⟨_, rfl⟩
                  rw [hC] at hs1 ⊢
                  clear hC
                  go_wp2_with fail
                  go_round
                  case rel => exact ⟨j + 1, by omega, by go_num, by rw [hs1.out]⟩
                  case measure => simp [intOf]; omega
          · obtain rfl : j = us.length := by omega
            cases hF : L.fineAt us a b k us.length with
            | false =>
              have hno1 : Hid (∀ c, c < k + 1 → L.fineAt us a b c us.length = false) := fun c hc => by
                by_cases he : c = k
                · subst he; exact hF
                · exact hno.out c (by omega)
              clear h0 hno hF hjl hj
              go_wp2_with fail
              go_round
              case rel => exact ⟨k + 1, by omega, by go_num, hno1⟩
              case measure => simp [intOf]; omega
            | true =>
              have hfin : Hid (L.join us a b = k) := L.first_hit hlt hno.out hF
              clear h0 hno hF hjl hj
              go_wp2_with fail
              go_ret
              exact ⟨ret_int hfin.out.symm, rfl⟩
    · obtain rfl : k = us.length := by omega
      have hfin : Hid (L.join us a b = -1) := L.first_none hno.out
      clear hno hlt hk
      go_wp2_with fail
      go_ret
      exact ⟨ret_int hfin.out.symm, rfl⟩
theorem infoU64 : (Tryd.prog.info? 35).map (fun i => (i.zero, i.size, i.bytes)) = some (some (.int .u64 0), 1, 8) := by kernel_rfl

namespace L
def downs (us : List Nat) (k : Nat) : List Nat := (List.range k).map fun (i : Nat) => down us i
theorem downs_succ (us : List Nat) (k : Nat) : downs us (k + 1) = downs us k ++ [down us k] := by simp [downs, List.range_succ]
theorem downs_length (us : List Nat) (k : Nat) : (downs us k).length = k := by simp [downs]
theorem turned_u64 (us : List Nat) : U64s (turned us) := by
  intro x hx
  obtain ⟨i, -, rfl⟩ := List.mem_map.1 hx
  exact down_lt us i
theorem downs_all (us : List Nat) : downs us us.length = turned us := rfl
end L

set_option maxHeartbeats 1000000 in
theorem turned_any (v : Value) (us : List Nat) (w : World) (hv : Us w v us) (hu : U64s us) (h64 : us.length ≤ 64) :
    Calls Tryd.prog 55 #[v] w fun e w' => ∃ v', e = .returned v' ∧ w'.ownsRow w.heap.size 35 1 v' us.length (u64Cells (L.turned us)) ∧ Below w.heap.size w w' := by
  obtain ⟨ao, cap, rfl, -⟩ := hv.shape
  obtain ⟨i0, hi, hz0, hz1, hz2⟩ := info_parts infoU64
  have HV := Lib.hid hv
  have HU := Lib.hid hu
  clear hv hu
  go_enter Tryd.func55, Tryd.ntmps55
  go_wp2_with fail
  go_loopw [3, 4] (fun o i wr => ∃ k : Nat, k ≤ us.length ∧ i = .int .i64 k ∧ Hid (wr.ownsRow w.heap.size 35 1 o k (u64Cells (L.downs us k))) ∧ Below w.heap.size w wr) (fun _ i _ => us.length - (intOf i).toNat)
  case atStart => exact ⟨0, by omega, rfl, World.ownsRow_nil _ _ _ _, Below.refl _ _⟩
  case round =>
    obtain ⟨k, hk, rfl, hr, hbr⟩ := hrel
    by_cases hlt : k < us.length
    · have hs := Lib.hid (L.downs_succ us k)
      go_wp2_with fail
      refine (refDown_any _ us k wr (HV.out.below hbr) HU.out).mono ?_
      rintro e w' ⟨rfl, rfl⟩
      have hdl := L.down_lt us k
      obtain ⟨d, hd⟩ : ∃ d, L.down us k = d := ⟨_, rfl⟩
      rw [hd] at hs hdl ⊢
      clear hd
      go_wp2_with (at_builtin; go_must (refine wpList_append_own (w := wr.alloc (.cells #[.int .u64 (d : Int)] 35)) rfl _ _ 23 rfl w.heap.size 35 i0 (.int .u64 0) 1 8 Tryd.underlying23 hi hz0 hz1 hz2 rfl (by decide) _ _ _ rfl (hr.out.alloc _) ⟨wr.heap.size, 0, none⟩ 1 1 [.int .u64 (d : Int)] rfl rfl (cell_one_new _ _ _) (by simp [Value.oneCell']) (by unfold maxLen; omega) (by omega) (by have := hbr.size; simp; omega) ?_))
      intro v2 w2 hown2 hgrow _
      have hrel : Hid (w2.ownsRow w.heap.size 35 1 v2 (k + 1) (u64Cells (L.downs us (k + 1)))) := by
        unfold Hid; rw [hs.out]; simpa [u64Cells] using hown2
      have hb2 : Below w.heap.size w w2 := (hbr.alloc hbr.size _).grown hgrow (by have := hbr.size; simp; omega) (ownBlock_ge hr.out)
      clear hown2 hgrow hr hs hbr
      go_wp2_with fail
      go_roundw
      case rel => exact ⟨k + 1, by omega, by go_num, hrel, hb2⟩
      case measure => simp [intOf]; omega
    · obtain rfl : k = us.length := by omega
      clear hlt hk
      go_wp2_with fail
      go_ret
      exact ⟨_, rfl, hr.out, hbr⟩

set_option maxHeartbeats 400000 in
theorem refMeet_any (v : Value) (us : List Nat) (a b : Int) (w : World) (hv : Us w v us) (hu : U64s us) :
    Calls Tryd.prog 46 #[v, .int .i64 a, .int .i64 b] w fun e w' => e = .returned (.int .i64 (L.meet us a b)) ∧ Below w.heap.size w w' := by
  obtain ⟨ao, cap, rfl, -⟩ := hv.shape
  by_cases h64 : us.length ≤ 64
  · have hd : decide ((64 : Int) < (us.length : Int)) = false := by simp; omega
    have HT := Lib.hid (turned_any _ us w hv hu h64)
    clear hv hu
    go_enter Tryd.func46, Tryd.ntmps46
    go_wp2_with fail
    refine HT.out.mono ?_
    rintro e w' ⟨v', rfl, hown, hb⟩
    have hus : Us w' v' (L.turned us) := Us.of_owns hown
    have HJ := Lib.hid (refJoin_any v' (L.turned us) a b w' hus (L.turned_u64 us))
    rw [L.join_turned] at HJ
    clear hown hus HT
    go_wp2_with fail
    refine HJ.out.mono ?_
    rintro e w2 ⟨rfl, rfl⟩
    go_wp2_with fail
    go_ret
    exact ⟨rfl, hb⟩
  · have hd : decide ((64 : Int) < (us.length : Int)) = true := by simp; omega
    have hfin : Hid (L.meet us a b = -1) := L.first_none fun c _ => by unfold L.under; rw [L.leq_long (by omega)]; rfl
    clear h64 hv hu
    go_enter Tryd.func46, Tryd.ntmps46
    go_wp2_with fail
    go_ret
    exact ⟨ret_int hfin.out.symm, Below.refl _ _⟩
end Go.Proofs.YtljpfocmnppjgaaDoor
