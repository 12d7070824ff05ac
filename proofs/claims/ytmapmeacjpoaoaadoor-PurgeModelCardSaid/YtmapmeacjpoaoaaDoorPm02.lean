/- What the reference's Bit, One, Leq and Down and lattice.Down return. Grants as values; what Less, Fits and May return. What Less and Fits return, both ways. A slice of grants among the arguments of a row. What May and Same return, both ways. Operations of the store as values, and slices of them. What purge.Flows, the reference's Flows and its union return. The lowest bit that is 1, taken away. No program. What math/bits.TrailingZeros64 returns. -/
import Derived.Test.YtmapmeacjpoaoaaDoorPm01
import Derived.BigQuiet
import Derived.Deep.QuietTactic
import Derived.Laws.StructEq
import Derived.Deep.Slices
import Derived.Deep.Fields
import Derived.Lib.TrailingZeros
import Derived.Test.YtmapmeacjpoaoaaDoorRows
namespace Go.Proofs.YtmapmeacjpoaoaaDoor
open Go Go.RowKit

theorem bit_last (x : Nat) : ((x : Int) % 2 == 1) = x.testBit 0 := by
  have := bit_eq x 0
  simpa using this

set_option maxHeartbeats 400000 in
theorem refBit_any (x k : Nat) (hx : x < 18446744073709551616) (hk : k ≤ 64) (w : World) :
    Calls Tryd.prog 59 #[.int .u64 x, .int .i64 k] w fun e w' => e = .returned (.bool (x.testBit k)) ∧ w = w' := by
  go_enter Tryd.func59, Tryd.ntmps59
  go_wp2_with fail
  go_loop [0, 5] (fun t i => ∃ j : Nat, j ≤ k ∧ i = .int .i64 j ∧ t = .int .u64 (x / 2 ^ j : Nat)) (fun _ i => k - (intOf i).toNat)
  case atStart => exact ⟨0, by omega, rfl, by simp⟩
  case round =>
    obtain ⟨j, hj, rfl, rfl⟩ := hrel
    have hn : Hid (x / 2 ^ j / 2 = x / 2 ^ (j + 1)) := by unfold Hid; rw [Nat.div_div_eq_div_mul, Nat.pow_succ]
    have hb : Hid (x.testBit j = (x / 2 ^ j).testBit 0) := by unfold Hid; rw [Nat.testBit_div_two_pow, Nat.zero_add]
    have hql : x / 2 ^ j < 18446744073709551616 := Nat.lt_of_le_of_lt (Nat.div_le_self _ _) hx
    obtain ⟨q, hq⟩ : ∃ q, x / 2 ^ j = q := ⟨_, rfl⟩
    rw [hq] at hn hb hql
    simp only [hq]
    clear hq
    by_cases hlt : j < k
    · go_wp2_with fail
      go_round
      case rel => exact ⟨j + 1, by omega, by go_num, by rw [← hn.out]; go_num⟩
      case measure => simp [intOf]; omega
    · obtain rfl : j = k := by omega
      clear hlt
      go_wp2_with fail
      go_ret
      exact ⟨ret_bool (by rw [hb.out]; exact bit_last q), rfl⟩

set_option maxHeartbeats 400000 in
theorem refOne_any (k : Nat) (hk : k < 64) (w : World) :
    Calls Tryd.prog 79 #[.int .i64 k] w fun e w' => e = .returned (.int .u64 (2 ^ k : Nat)) ∧ w = w' := by
  go_enter Tryd.func79, Tryd.ntmps79
  go_wp2_with fail
  go_loop [3, 4] (fun t i => ∃ j : Nat, j ≤ k ∧ i = .int .i64 j ∧ t = .int .u64 (2 ^ j : Nat)) (fun _ i => k - (intOf i).toNat)
  case atStart => exact ⟨0, by omega, rfl, rfl⟩
  case round =>
    obtain ⟨j, hj, rfl, rfl⟩ := hrel
    have hn : Hid (2 ^ (j + 1) = 2 ^ j * 2) := Nat.pow_succ 2 j
    by_cases hlt : j < k
    · have hp : 2 ^ j ≤ 2 ^ 62 := Nat.pow_le_pow_right (by decide) (by omega)
      have hp2 : 2 ^ j ≤ 4611686018427387904 := hp
      clear hp
      obtain ⟨q, hq⟩ : ∃ q, 2 ^ j = q := ⟨_, rfl⟩
      rw [hq] at hn hp2
      simp only [hq]
      clear hq
      go_wp2_with fail
      go_round
      case rel => exact ⟨j + 1, by omega, by go_num, by rw [hn.out]; go_num⟩
      case measure => simp [intOf]; omega
    · obtain rfl : j = k := by omega
      clear hlt hn
      obtain ⟨q, hq⟩ : ∃ q, 2 ^ j = q := ⟨_, rfl⟩
      simp only [hq]
      go_wp2_with fail
      go_ret
      exact ⟨ret_int rfl, rfl⟩

set_option maxHeartbeats 800000 in
theorem refLeq_any (v : Value) (us : List Nat) (a b : Int) (w : World) (hv : Us w v us) (hu : U64s us) :
    Calls Tryd.prog 31 #[v, .int .i64 a, .int .i64 b] w fun e w' => e = .returned (.bool (L.leq us a b)) ∧ w = w' := by
  obtain ⟨ao, cap, rfl, -⟩ := hv.shape
  by_cases hall : L.lab us a = true ∧ L.lab us b = true
  · obtain ⟨h64, ha0, han⟩ := L.lab_iff.1 hall.1
    obtain ⟨-, hb0, hbn⟩ := L.lab_iff.1 hall.2
    obtain ⟨i, rfl⟩ := Int.eq_ofNat_of_zero_le ha0
    obtain ⟨j, rfl⟩ := Int.eq_ofNat_of_zero_le hb0
    have hi : i < us.length := by omega
    obtain ⟨bk, off, rfl, hc⟩ := hv.at hi
    have hcell := hc i hi
    have hx := hu.getD i
    obtain ⟨x, hxx⟩ : ∃ x, us.getD i 0 = x := ⟨_, rfl⟩
    have hfin : Hid (L.leq us i j = x.testBit j) := by unfold Hid L.leq; rw [hall.1, hall.2, ← hxx]; rfl
    rw [hxx] at hcell hx
    have d1 : decide ((us.length : Int) ≤ 64) = true := by simp; omega
    have d3 : decide ((i : Int) < (us.length : Int)) = true := by simp; omega
    have d5 : decide ((j : Int) < (us.length : Int)) = true := by simp; omega
    clear hxx hc hall
    go_enter Tryd.func31, Tryd.ntmps31
    go_wp2_with fail
    refine (refBit_any x j hx (by omega) w).mono ?_
    rintro e w' ⟨rfl, rfl⟩
    go_wp2_with fail
    go_ret
    exact ⟨ret_bool (by rw [hfin.out]), rfl⟩
  · have hfin : Hid (L.leq us a b = false) := by
      unfold Hid
      cases ha : L.lab us a with
      | false => exact L.leq_of_not_left ha b
      | true =>
        cases hb : L.lab us b with
        | false => exact L.leq_of_not_right hb a
        | true => exact absurd ⟨ha, hb⟩ hall
    by_cases h64 : us.length ≤ 64
    · have d1 : decide ((us.length : Int) ≤ 64) = true := by simp; omega
      by_cases ha0 : 0 ≤ a
      · have d2 : decide (0 ≤ a) = true := by simp; omega
        by_cases han : a < us.length
        · have d3 : decide (a < (us.length : Int)) = true := by simp; omega
          have hA : L.lab us a = true := L.lab_iff.2 ⟨h64, ha0, han⟩
          by_cases hb0 : 0 ≤ b
          · have d4 : decide (0 ≤ b) = true := by simp; omega
            have d5 : decide (b < (us.length : Int)) = false := by
              rw [decide_eq_false_iff_not]
              intro hbn
              exact hall ⟨hA, L.lab_iff.2 ⟨h64, hb0, hbn⟩⟩
            clear hall hA h64 ha0 han hb0
            go_enter Tryd.func31, Tryd.ntmps31
            go_wp2_with fail
            go_ret
            exact ⟨ret_bool (by rw [hfin.out]), rfl⟩
          · have d4 : decide (0 ≤ b) = false := by simp; omega
            clear hall hA h64 ha0 han hb0
            go_enter Tryd.func31, Tryd.ntmps31
            go_wp2_with fail
            go_ret
            exact ⟨ret_bool (by rw [hfin.out]), rfl⟩
        · have d3 : decide (a < (us.length : Int)) = false := by simp; omega
          clear hall h64 ha0 han
          go_enter Tryd.func31, Tryd.ntmps31
          go_wp2_with fail
          go_ret
          exact ⟨ret_bool (by rw [hfin.out]), rfl⟩
      · have d2 : decide (0 ≤ a) = false := by simp; omega
        clear hall h64 ha0
        go_enter Tryd.func31, Tryd.ntmps31
        go_wp2_with fail
        go_ret
        exact ⟨ret_bool (by rw [hfin.out]), rfl⟩
    · have d1 : decide ((us.length : Int) ≤ 64) = false := by simp; omega
      clear hall h64
      go_enter Tryd.func31, Tryd.ntmps31
      go_wp2_with fail
      go_ret
      exact ⟨ret_bool (by rw [hfin.out]), rfl⟩

theorem pow_le64 {k : Nat} (h : k ≤ 64) : 2 ^ k ≤ 18446744073709551616 := by
  have := Nat.pow_le_pow_right (n := 2) (by decide) h
  exact this
theorem wrap_pow (k : Nat) (h : k < 64) : IntKind.u64.wrap (2 ^ k) = ((2 ^ k : Nat) : Int) := by
  have hp : 2 ^ k < 18446744073709551616 := Nat.pow_lt_pow_right (show 1 < 2 by decide) h
  have e : ((2 : Int) ^ k) = ((2 ^ k : Nat) : Int) := by rw [Int.natCast_pow]; rfl
  rw [e, IntKind.wrap_u64]
  generalize 2 ^ k = q at *
  omega
theorem or_bits (x i : Nat) (hx : x < 18446744073709551616) (hi : i < 64) : bits BinOp.or IntKind.u64 (x : Int) ((2 ^ i : Nat) : Int) = ((x ||| 2 ^ i : Nat) : Int) :=
  u64_or_nat _ _ hx (by have := Nat.pow_lt_pow_right (show 1 < 2 by decide) hi; omega)

set_option maxHeartbeats 800000 in
theorem down_any (v : Value) (us : List Nat) (a : Int) (w : World) (hv : Us w v us) (hu : U64s us) :
    Calls Tryd.prog 34 #[v, .int .i64 a] w fun e w' => e = .returned (.int .u64 (L.down us a : Nat)) ∧ w = w' := by
  obtain ⟨ao, cap, rfl, -⟩ := hv.shape
  have hbig := hv.len
  go_enter Tryd.func34, Tryd.ntmps34
  go_wp2_with fail
  go_loop [5, 9] (fun t i => ∃ k : Nat, k ≤ us.length ∧ i = .int .i64 k ∧ t = .int .u64 (ofBits k (fun i => L.leq us i a) : Nat)) (fun _ i => us.length - (intOf i).toNat)
  case atStart => exact ⟨0, by omega, rfl, rfl⟩
  case round =>
    obtain ⟨k, hk, rfl, rfl⟩ := hrel
    by_cases hlt : k < us.length
    · have hs : Hid (ofBits (k + 1) (fun i => L.leq us i a) = (ofBits k (fun i => L.leq us i a) ||| if L.leq us k a then 2 ^ k else 0)) := (ofBits_or k _).symm
      have hx : L.leq us k a = true → ofBits k (fun i => L.leq us i a) < 18446744073709551616 ∧ k < 64 := fun h => by
        have h64 : us.length ≤ 64 := by
          rcases Nat.lt_or_ge 64 us.length with h' | h'
          · rw [L.leq_long h'] at h; cases h
          · exact h'
        exact ⟨Nat.lt_of_lt_of_le (ofBits_lt _ _) (pow_le64 (by omega)), by omega⟩
      have HX := Lib.hid hx
      clear hx
      obtain ⟨q, hq⟩ : ∃ q, ofBits k (fun i => L.leq us i a) = q := ⟨_, rfl⟩
      rw [hq] at hs HX
      simp only [hq]
      clear hq
      go_wp2_with fail
      refine (leq_any _ us k a w hv hu).mono ?_
      rintro e w' ⟨rfl, rfl⟩
      cases hl : L.leq us k a with
      | false =>
        rw [hl] at hs
        have HS : Hid (ofBits (k + 1) (fun i => L.leq us i a) = q) := by unfold Hid; rw [hs.out]; simp
        clear hl hs
        go_wp2_with fail
        go_round
        case rel => exact ⟨k + 1, by omega, by go_num, by rw [HS.out]⟩
        case measure => simp [intOf]; omega
      | true =>
        rw [hl] at hs HX
        obtain ⟨hq64, hk64⟩ := HX.out rfl
        have HS : Hid (ofBits (k + 1) (fun i => L.leq us i a) = q ||| 2 ^ k) := by unfold Hid; rw [hs.out]; simp
        have ho := or_bits q k hq64 hk64
        clear hl hs HX
        have hk64' : (k : Int) < 64 := by omega
        go_wp2_with fail
        go_round
        case rel => exact ⟨k + 1, by omega, by go_num, by rw [wrap_pow _ hk64, ho, HS.out]⟩
        case measure => simp [intOf]; omega
    · obtain rfl : k = us.length := by omega
      clear hlt hk
      go_wp2_with fail
      go_ret
      exact ⟨ret_int rfl, rfl⟩

set_option maxHeartbeats 800000 in
theorem refDown_any (v : Value) (us : List Nat) (a : Int) (w : World) (hv : Us w v us) (hu : U64s us) :
    Calls Tryd.prog 78 #[v, .int .i64 a] w fun e w' => e = .returned (.int .u64 (L.down us a : Nat)) ∧ w = w' := by
  obtain ⟨ao, cap, rfl, -⟩ := hv.shape
  have hbig := hv.len
  go_enter Tryd.func78, Tryd.ntmps78
  go_wp2_with fail
  go_loop [5, 6] (fun t i => ∃ k : Nat, k ≤ us.length ∧ i = .int .i64 k ∧ t = .int .u64 (ofBits k (fun i => L.leq us i a) : Nat)) (fun _ i => us.length - (intOf i).toNat)
  case atStart => exact ⟨0, by omega, rfl, rfl⟩
  case round =>
    obtain ⟨k, hk, rfl, rfl⟩ := hrel
    by_cases hlt : k < us.length
    · have hs : Hid (ofBits (k + 1) (fun i => L.leq us i a) = ofBits k (fun i => L.leq us i a) + if L.leq us k a then 2 ^ k else 0) := ofBits_succ k _
      have hx : L.leq us k a = true → ofBits k (fun i => L.leq us i a) + 2 ^ k < 18446744073709551616 ∧ k < 64 := fun h => by
        have h64 : us.length ≤ 64 := by
          rcases Nat.lt_or_ge 64 us.length with h' | h'
          · rw [L.leq_long h'] at h; cases h
          · exact h'
        have h1 := ofBits_lt k (fun i => L.leq us i a)
        have h2 := pow_le64 (show k + 1 ≤ 64 by omega)
        rw [Nat.pow_succ] at h2
        exact ⟨by omega, by omega⟩
      have HX := Lib.hid hx
      clear hx
      obtain ⟨q, hq⟩ : ∃ q, ofBits k (fun i => L.leq us i a) = q := ⟨_, rfl⟩
      rw [hq] at hs HX
      simp only [hq]
      clear hq
      go_wp2_with fail
      refine (refLeq_any _ us k a w hv hu).mono ?_
      rintro e w' ⟨rfl, rfl⟩
      cases hl : L.leq us k a with
      | false =>
        rw [hl] at hs
        have HS : Hid (ofBits (k + 1) (fun i => L.leq us i a) = q) := by unfold Hid; rw [hs.out]; simp
        clear hl hs
        go_wp2_with fail
        go_round
        case rel => exact ⟨k + 1, by omega, by go_num, by rw [HS.out]⟩
        case measure => simp [intOf]; omega
      | true =>
        rw [hl] at hs HX
        obtain ⟨hq64, hk64⟩ := HX.out rfl
        have HS : Hid (ofBits (k + 1) (fun i => L.leq us i a) = q + 2 ^ k) := by unfold Hid; rw [hs.out]; simp
        clear hl hs HX
        obtain ⟨p, hp⟩ : ∃ p, 2 ^ k = p := ⟨_, rfl⟩
        have HP := Lib.hid hp
        rw [hp] at hq64 HS
        clear hp
        go_wp2_with fail
        refine (refOne_any k hk64 w).mono ?_
        rintro e w' ⟨rfl, rfl⟩
        rw [HP.out]
        go_wp2_with fail
        go_round
        case rel => exact ⟨k + 1, by omega, by go_num, by rw [HS.out]; go_num⟩
        case measure => simp [intOf]; omega
    · obtain rfl : k = us.length := by omega
      clear hlt hk
      go_wp2_with fail
      go_ret
      exact ⟨ret_int rfl, rfl⟩
end Go.Proofs.YtmapmeacjpoaoaaDoor
namespace Go.Proofs.YtmapmeacjpoaoaaDoor
open Go Go.RowKit

/-- A grant: its actor, and from where to where. -/
abbrev Gr : Type := Int × Int × Int
def GR : Three Gr := ⟨fun g => .int .i64 g.1, fun g => .int .i64 g.2.1, fun g => .int .i64 g.2.2⟩
abbrev gv (g : Gr) : Value := .agg #[.int .i64 g.1, .int .i64 g.2.1, .int .i64 g.2.2]

/-- '==' of two grants. -/
theorem gr_eql (a b : Gr) (w : World) : (binOp .eql 74 (gv a) (gv b)).run Tryd.prog w = .ok (.bool (a == b)) w := by
  have u3 := Tryd.underlying3
  have a3 := Tryd.isAgg3
  have z3 := Tryd.sizeOf3
  have hS : Tryd.prog.underlying 74 = some (.struct (Tryd.prog.fieldsOf 74)) := by kernel_rfl
  have hp : Tryd.prog.stoodInHeld 74 = false := by kernel_rfl
  unfold gv
  rw [run_eql_struct, show (10000 : Nat) = 9999 + 1 from rfl, run_equalIn_agg w 9999 74 _ _ hS hp]
  simp only [Program.fieldsOf, Tryd.underlying74]
  obtain ⟨a0, a1, a2⟩ := a
  obtain ⟨b0, b1, b2⟩ := b
  go_simp
  by_cases h1 : a0 = b0 <;> by_cases h2 : a1 = b1 <;> by_cases h3 : a2 = b2 <;> simp [h1, h2, h3]
theorem gr_guard (op : BinOp) (x y : Operand) (xs ys : Array Value) (w : World) : (eqGuard op 74 x y (.agg xs) (.agg ys)).run Tryd.prog w = .ok () w := run_eqGuard_agg _ _ _ _ _ _ _ (by kernel_rfl)

namespace L
/-- How two grants stand. -/
def gcmp (g h : Gr) : Int := orI [ordI g.1 h.1, ordI g.2.1 h.2.1, ordI g.2.2 h.2.2]
def gless (g h : Gr) : Bool := decide (gcmp g h < 0)
def fits (us : List Nat) (g : Gr) : Bool := leq us g.2.1 g.1 && leq us g.2.2 g.1 && !leq us g.2.1 g.2.2
theorem ordI_cases (a b : Int) : (a < b ∧ ordI a b = -1) ∨ (b < a ∧ ordI a b = 1) ∨ (a = b ∧ ordI a b = 0) := by
  unfold ordI
  by_cases h : a < b
  · exact .inl ⟨h, if_pos h⟩
  · rw [if_neg h]
    by_cases h2 : b < a
    · exact .inr (.inl ⟨h2, if_pos h2⟩)
    · exact .inr (.inr ⟨by omega, if_neg h2⟩)
theorem gless_eq (g h : Gr) : gless g h = if g.1 ≠ h.1 then decide (g.1 < h.1) else if g.2.1 ≠ h.2.1 then decide (g.2.1 < h.2.1) else decide (g.2.2 < h.2.2) := by
  have hz : (-1 : Int) ≠ 0 := by decide
  have ho : (1 : Int) ≠ 0 := by decide
  unfold gless gcmp orI orI orI orI
  rcases ordI_cases g.1 h.1 with ⟨h1, e1⟩ | ⟨h1, e1⟩ | ⟨h1, e1⟩
  · rw [e1, if_neg hz, if_pos (show g.1 ≠ h.1 by omega), decide_eq_true (p := g.1 < h.1) h1]; rfl
  · rw [e1, if_neg ho, if_pos (show g.1 ≠ h.1 by omega), decide_eq_false (p := g.1 < h.1) (by omega)]; rfl
  · rw [e1, if_pos (rfl : (0 : Int) = 0), if_neg (show ¬ g.1 ≠ h.1 by omega)]
    rcases ordI_cases g.2.1 h.2.1 with ⟨h2, e2⟩ | ⟨h2, e2⟩ | ⟨h2, e2⟩
    · rw [e2, if_neg hz, if_pos (show g.2.1 ≠ h.2.1 by omega), decide_eq_true (p := g.2.1 < h.2.1) h2]; rfl
    · rw [e2, if_neg ho, if_pos (show g.2.1 ≠ h.2.1 by omega), decide_eq_false (p := g.2.1 < h.2.1) (by omega)]; rfl
    · rw [e2, if_pos (rfl : (0 : Int) = 0), if_neg (show ¬ g.2.1 ≠ h.2.1 by omega)]
      rcases ordI_cases g.2.2 h.2.2 with ⟨h3, e3⟩ | ⟨h3, e3⟩ | ⟨h3, e3⟩
      · rw [e3, if_neg hz, decide_eq_true (p := g.2.2 < h.2.2) h3]; rfl
      · rw [e3, if_neg ho, decide_eq_false (p := g.2.2 < h.2.2) (by omega)]; rfl
      · rw [e3, if_pos (rfl : (0 : Int) = 0), decide_eq_false (p := g.2.2 < h.2.2) (by omega)]; rfl
end L

/-- A block of three cells. -/
def Bx (w : World) (B : Nat) (t : TypeId) (c0 c1 c2 : Value) : Prop := w.heap[B]? = some (.cells #[c0, c1, c2] t (0, 0))
theorem Bx.lt {w : World} {B : Nat} {t : TypeId} {c0 c1 c2 : Value} (h : Bx w B t c0 c1 c2) : B < w.heap.size := (Array.getElem?_eq_some_iff.1 h).1
theorem Bx.later {w w' : World} {B : Nat} {t : TypeId} {c0 c1 c2 : Value} (h : Bx w B t c0 c1 c2) (hb : Below w.heap.size w w') : Bx w' B t c0 c1 c2 := (hb.block B h.lt).trans h
theorem Bx.cells {w : World} {B : Nat} {t : TypeId} {c0 c1 c2 : Value} (h : Bx w B t c0 c1 c2) : w.cell? ⟨B, 0, none⟩ = some c0 ∧ w.cell? ⟨B, 1, none⟩ = some c1 ∧ w.cell? ⟨B, 2, none⟩ = some c2 :=
  ⟨cell_of_row w B 0 _ _ (0, 0) h, cell_of_row w B 1 _ _ (0, 0) h, cell_of_row w B 2 _ _ (0, 0) h⟩

end Go.Proofs.YtmapmeacjpoaoaaDoor
namespace Go.Proofs.YtmapmeacjpoaoaaDoor
open Go Go.RowKit

abbrev Gs (w : World) (v : Value) (l : List Gr) : Prop := GR.Ss w v l
theorem Gs.at3 {w : World} {ao : Option Addr} {len cap : Nat} {l : List Gr} (h : Gs w (.slice ao len cap) l) {j : Nat} (hj : j < l.length) :
    ∃ b off, ao = some ⟨b, off, none⟩ ∧ ∀ i (hi : i < l.length), w.cell? ⟨b, off + i * 3, none⟩ = some (.int .i64 l[i].1) ∧ w.cell? ⟨b, off + i * 3 + 1, none⟩ = some (.int .i64 l[i].2.1) ∧ w.cell? ⟨b, off + i * 3 + 2, none⟩ = some (.int .i64 l[i].2.2) := Three.Ss.at h hj

set_option maxHeartbeats 1000000 in
theorem refLess_any (g h : Gr) (w : World) : Calls Tryd.prog 65 #[gv g, gv h] w fun e w' => e = .returned (.bool (L.gless g h)) ∧ Below w.heap.size w w' := by
  have hd := L.gless_eq g h
  obtain ⟨a0, a1, a2⟩ := g
  obtain ⟨b0, b1, b2⟩ := h
  have hb1 := Lib.hid (((Below.refl w.heap.size w).alloc (Nat.le_refl _) (.cells #[.int .i64 a0, .int .i64 a1, .int .i64 a2] 74)).alloc (by simp) (.cells #[.int .i64 b0, .int .i64 b1, .int .i64 b2] 74))
  by_cases h1 : a0 = b0
  · have d1 : (a0 != b0) = false := by simp [h1]
    by_cases h2 : a1 = b1
    · have d2 : (a1 != b1) = false := by simp [h2]
      rw [hd, if_neg (by simp [h1]), if_neg (by simp [h2])]
      clear hd h1 h2
      go_enter Tryd.func65, Tryd.ntmps65
      go_wp2_with fail
      go_ret
      exact ⟨rfl, hb1.out⟩
    · have d2 : (a1 != b1) = true := by simp [h2]
      rw [hd, if_neg (by simp [h1]), if_pos (by simp [h2])]
      clear hd h1 h2
      go_enter Tryd.func65, Tryd.ntmps65
      go_wp2_with fail
      go_ret
      exact ⟨rfl, hb1.out⟩
  · have d1 : (a0 != b0) = true := by simp [h1]
    rw [hd, if_pos (by simp [h1])]
    clear hd h1
    go_enter Tryd.func65, Tryd.ntmps65
    go_wp2_with fail
    go_ret
    exact ⟨rfl, hb1.out⟩

set_option maxHeartbeats 1000000 in
theorem refFits_any (v : Value) (us : List Nat) (g : Gr) (w : World) (hv : Us w v us) (hu : U64s us) :
    Calls Tryd.prog 64 #[v, gv g] w fun e w' => e = .returned (.bool (L.fits us g)) ∧ Below w.heap.size w w' := by
  obtain ⟨ao, cap, rfl, -⟩ := hv.shape
  have hd : L.fits us g = (L.leq us g.2.1 g.1 && L.leq us g.2.2 g.1 && !L.leq us g.2.1 g.2.2) := rfl
  rw [hd]
  obtain ⟨a0, a1, a2⟩ := g
  have hb1 := (Below.refl w.heap.size w).alloc (Nat.le_refl _) (.cells #[.int .i64 a0, .int .i64 a1, .int .i64 a2] 74)
  have HB := Lib.hid hb1
  have HQ := Lib.hid (fun (c d : Int) => refLeq_any _ us c d _ (hv.below hb1) hu)
  clear hd hb1 hv
  have q1 := Lib.hid (HQ.out a1 a0)
  have q2 := Lib.hid (HQ.out a2 a0)
  have q3 := Lib.hid (HQ.out a1 a2)
  clear HQ
  simp only []
  generalize L.leq us a1 a0 = x1 at *
  generalize L.leq us a2 a0 = x2 at *
  generalize L.leq us a1 a2 = x3 at *
  cases x1 with
  | false =>
    go_enter Tryd.func64, Tryd.ntmps64
    go_wp2_with fail
    refine q1.out.mono ?_
    rintro e w' ⟨rfl, rfl⟩
    go_wp2_with fail
    go_ret
    exact ⟨rfl, HB.out⟩
  | true =>
    cases x2 with
    | false =>
      go_enter Tryd.func64, Tryd.ntmps64
      go_wp2_with fail
      refine q1.out.mono ?_
      rintro e w' ⟨rfl, rfl⟩
      go_wp2_with fail
      refine q2.out.mono ?_
      rintro e w' ⟨rfl, rfl⟩
      go_wp2_with fail
      go_ret
      exact ⟨rfl, HB.out⟩
    | true =>
      go_enter Tryd.func64, Tryd.ntmps64
      go_wp2_with fail
      refine q1.out.mono ?_
      rintro e w' ⟨rfl, rfl⟩
      go_wp2_with fail
      refine q2.out.mono ?_
      rintro e w' ⟨rfl, rfl⟩
      go_wp2_with fail
      refine q3.out.mono ?_
      rintro e w' ⟨rfl, rfl⟩
      go_wp2_with fail
      go_ret
      exact ⟨rfl, HB.out⟩

end Go.Proofs.YtmapmeacjpoaoaaDoor
namespace Go.Proofs.YtmapmeacjpoaoaaDoor
open Go Go.RowKit Go.ChangeShapes Go.WideShapes Go.ChangeAt

theorem open_grs_cs {H : Type} {enc : TypeId × Value → H} {P : Program} {W : World} {t e : TypeId} {fuel : Nat} {cs : List Value} {x : DataW H × List MemPlace} {f0 f1 f2 : Field} (ht : P.underlying t = some (.slice e)) (he : P.underlying e = some (.struct #[f0, f1, f2])) (hone : Deep.oneCellFields P #[f0, f1, f2] = true) (hC : P.cellsOf e = 3)
    (h0 : P.underlying f0.type = some (.int .i64)) (h1 : P.underlying f1.type = some (.int .i64)) (h2 : P.underlying f2.type = some (.int .i64))
    (hf : DataW.trod enc P W 0 (fun _ => true) true fuel t cs = some x) : ∃ (v : Value) (l : List Gr), cs = [v] ∧ Gs W v l := by
  rcases Deep.open_slice ht hf with ⟨hcs, -⟩ | ⟨a, len, cap, m, n, D, Pl, hcs, -, hl, hm, hmm, -, hi⟩
  · rw [hcs]
    exact ⟨_, [], rfl, Three.Ss.nil _⟩
  · simp only [if_true] at hmm
    rw [hcs]
    subst hmm
    have hex : ∀ i, i < len → ∃ g : Gr, W.cell? (a.add (i * 3)) = some (.int .i64 g.1) ∧ W.cell? (a.add (i * 3 + 1)) = some (.int .i64 g.2.1) ∧ W.cell? (a.add (i * 3 + 2)) = some (.int .i64 g.2.2) := fun i hil => by
      obtain ⟨cs', hc, htr⟩ := hi i (by omega)
      rw [hC] at hc
      obtain ⟨-, hlen, hat⟩ := World.cells?_some hc
      obtain ⟨xs, n', -, -, -, hxl, hfs⟩ := DataW.trod_struct he htr
      match cs', hlen with
      | [c0, c1, c2], _ =>
        obtain ⟨o0, k0⟩ := Deep.hone_of hone 0 f0 rfl
        obtain ⟨o1, k1⟩ := Deep.hone_of hone 1 f1 rfl
        obtain ⟨o2, k2⟩ := Deep.hone_of hone 2 f2 rfl
        match xs, hxl with
        | [y0, y1, y2], _ =>
          have q0 := hfs 0 f0 rfl
          have q1 := hfs 1 f1 rfl
          have q2 := hfs 2 f2 rfl
          rw [o0, k0] at q0
          rw [o1, k1] at q1
          rw [o2, k2] at q2
          obtain ⟨z0, e0, -⟩ := DataW.trod_int h0 (show DataW.trod enc P W 0 (fun _ => true) true n' f0.type [c0] = some y0 from q0)
          obtain ⟨z1, e1, -⟩ := DataW.trod_int h1 (show DataW.trod enc P W 0 (fun _ => true) true n' f1.type [c1] = some y1 from q1)
          obtain ⟨z2, e2, -⟩ := DataW.trod_int h2 (show DataW.trod enc P W 0 (fun _ => true) true n' f2.type [c2] = some y2 from q2)
          simp only [List.cons.injEq, and_true] at e0 e1 e2
          have r0 := hat 0 (by decide)
          have r1 := hat 1 (by decide)
          have r2 := hat 2 (by decide)
          rw [Deep.add_add] at r0 r1 r2
          exact ⟨(z0, z1, z2), by rw [show i * 3 = i * 3 + 0 by omega, r0, e0]; rfl, by rw [r1, e1]; rfl, by rw [r2, e2]; rfl⟩
    obtain ⟨F, hF⟩ := Deep.choose_lt hex
    refine ⟨_, (List.range len).map F, rfl, ?_⟩
    have hll : ((List.range len).map F).length = len := by simp
    refine ⟨by rw [Three.cells_length], some a, m, by rw [hll], by rw [hll]; exact hl, hm, fun e => (by cases e), fun j hj => ?_⟩
    rw [Three.cells_length, hll] at hj
    obtain ⟨g0, g1, g2⟩ := hF (j / 3) (by omega)
    have gz := (hF 0 (by omega)).1
    obtain ⟨b, off, spot⟩ := a
    have hspot : spot = none := by simpa [Addr.add] using World.cell?_spot gz
    subst hspot
    refine ⟨b, off, rfl, ?_⟩
    rw [add_plain] at g0 g1 g2
    obtain ⟨p0, p1, p2⟩ := GR.cells_at ((List.range len).map F) (j / 3) (by rw [hll]; omega)
    rw [List.getElem_map, List.getElem_range] at p0 p1 p2
    have hj3 : j = j / 3 * 3 + j % 3 := by omega
    have hlt : j % 3 < 3 := Nat.mod_lt _ (by decide)
    have key : ∀ k x, j = k → (GR.cells ((List.range len).map F))[k]? = some x → W.cell? ⟨b, off + k, none⟩ = some x → W.cell? ⟨b, off + j, none⟩ = some ((GR.cells ((List.range len).map F))[j]'(by rw [Three.cells_length, hll]; exact hj)) := fun k x e hx hw => by
      subst e
      obtain ⟨_, hx'⟩ := List.getElem?_eq_some_iff.1 hx
      rw [hw, hx']
    match hr : j % 3, hlt with
    | 0, _ => exact key _ _ (by omega) p0 g0
    | 1, _ => exact key _ _ (by omega) p1 g1
    | 2, _ => exact key _ _ (by omega) p2 g2

end Go.Proofs.YtmapmeacjpoaoaaDoor
namespace Go.Proofs.YtmapmeacjpoaoaaDoor
open Go Go.RowKit

theorem contains_iff {l : List Gr} {g : Gr} : l.contains g = true ↔ g ∈ l := by simp
theorem contains_no {l : List Gr} {g : Gr} (h : ∀ i (hi : i < l.length), l[i] ≠ g) : l.contains g = false := by
  cases hc : l.contains g with
  | false => rfl
  | true =>
    obtain ⟨i, hi, e⟩ := List.getElem_of_mem (contains_iff.1 hc)
    exact absurd e (h i hi)
theorem contains_yes {l : List Gr} {g : Gr} {i : Nat} (hi : i < l.length) (h : l[i] = g) : l.contains g = true := contains_iff.2 (h ▸ List.getElem_mem hi)
theorem no_more {l : List Gr} {g : Gr} {k : Nat} (h : ∀ i (_ : i < l.length), i < k → l[i] ≠ g) (hk : k < l.length) (hg : l[k] ≠ g) : ∀ i (_ : i < l.length), i < k + 1 → l[i] ≠ g := fun i hi hik => by
  by_cases e : i = k
  · subst e; exact hg
  · exact h i hi (by omega)

set_option maxHeartbeats 1000000 in
theorem gindex_any (v : Value) (l : List Gr) (g : Gr) (w : World) (h : Gs w v l) :
    Calls Tryd.prog 75 #[v, gv g] w fun e w' => ∃ r : Int, e = .returned (.int .i64 r) ∧ Hid (decide (0 ≤ r) = l.contains g) ∧ Below w.heap.size w w' := by
  have hbig := h.len
  obtain ⟨ao, cap, rfl, -⟩ := h.shape
  have hb1 := (Below.refl w.heap.size w).alloc (Nat.le_refl _) (.cells #[.int .i64 g.1, .int .i64 g.2.1, .int .i64 g.2.2] 74)
  have HB := Lib.hid (Three.Ss.below h ((Below.refl w.heap.size w).alloc (Nat.le_refl _) (.cells #[.int .i64 g.1, .int .i64 g.2.1, .int .i64 g.2.2] 74)))
  obtain ⟨a0, a1, a2⟩ := g
  obtain ⟨N, hN⟩ : ∃ N, l.length = N := ⟨_, rfl⟩
  have HN := Lib.hid hN
  rw [hN] at hbig HB ⊢
  clear h hN
  go_enter Tryd.func75, Tryd.ntmps75
  go_wp2_with fail
  have HX : Hid (Bx (w.alloc (.cells #[.int .i64 a0, .int .i64 a1, .int .i64 a2] 74)) w.heap.size 74 (.int .i64 a0) (.int .i64 a1) (.int .i64 a2)) := heap_alloc_new _ _
  replace hb1 := Lib.hid hb1
  generalize w.alloc (.cells #[.int .i64 a0, .int .i64 a1, .int .i64 a2] 74) = w1 at *
  obtain ⟨B, hB⟩ : ∃ B, w.heap.size = B := ⟨_, rfl⟩
  rw [hB] at HX
  rw [hB]
  clear hB
  go_loopw [8] (fun i wr => ∃ k : Nat, k ≤ N ∧ i = .int .i64 k ∧ Hid (∀ i (_ : i < l.length), i < k → l[i] ≠ (a0, a1, a2)) ∧ Hid (Below w1.heap.size w1 wr)) (fun i _ => N - (intOf i).toNat)
  case atStart => exact ⟨0, by omega, rfl, fun i _ hi => absurd hi (Nat.not_lt_zero _), Below.refl _ _⟩
  case round =>
    obtain ⟨k, hk, rfl, hno, hbr⟩ := hrel
    by_cases hkN : k < N
    · have hkl : k < l.length := by have := HN.out; omega
      obtain ⟨c0, c1, c2⟩ := (Bx.later HX.out hbr.out).cells
      obtain ⟨b, off, rfl, hc⟩ := Gs.at3 (Three.Ss.below HB.out hbr.out) hkl
      obtain ⟨p0, p1, p2⟩ := hc k hkl
      have hyes := Lib.hid (contains_yes (g := (a0, a1, a2)) hkl)
      have hnext := Lib.hid (no_more hno.out hkl)
      obtain ⟨y, hy⟩ : ∃ y, l[k] = y := ⟨_, rfl⟩
      rw [hy] at p0 p1 p2 hyes hnext
      clear hy hno hc hkl
      have hq := gr_eql (a0, a1, a2) y
      have hg := fun u z => gr_guard .eql u z #[.int .i64 a0, .int .i64 a1, .int .i64 a2] #[.int .i64 y.1, .int .i64 y.2.1, .int .i64 y.2.2]
      obtain ⟨y0, y1, y2⟩ := y
      unfold gv at hq
      simp only [] at p0 p1 p2 hq hg
      cases he : ((a0, a1, a2) == (y0, y1, y2)) with
      | true =>
        rw [he] at hq
        have hfin : Hid (decide ((0 : Int) ≤ (k : Int)) = l.contains (a0, a1, a2)) := by
          unfold Hid
          rw [beq_iff_eq] at he
          rw [hyes.out he.symm]
          simp
        clear hyes hnext he
        go_wp2_with fail
        go_quiet (fail)
        clear p0 p1 p2 hq hg c0 c1 c2
        go_wp2_with fail
        go_ret
        exact ⟨_, rfl, hfin, below_next (below_next hb1.out hbr.out) (below_drewN _ _)⟩
      | false =>
        rw [he] at hq
        have hne : Hid (∀ i (_ : i < l.length), i < k + 1 → l[i] ≠ (a0, a1, a2)) := hnext.out (by rintro h; rw [beq_eq_false_iff_ne] at he; exact he h.symm)
        clear hyes hnext he
        go_wp2_with fail
        go_quiet (fail)
        clear p0 p1 p2 hq hg c0 c1 c2
        go_wp2_with fail
        go_roundw
        case rel => exact ⟨k + 1, by omega, by go_num, hne, below_next hbr.out (below_drewN _ _)⟩
        case measure => simp [intOf]; omega
    · have hfin : Hid (decide ((0 : Int) ≤ -1) = l.contains (a0, a1, a2)) := by
        unfold Hid
        rw [contains_no fun i hi => hno.out i hi (by have := HN.out; omega)]
        rfl
      go_wp2_with fail
      go_ret
      exact ⟨_, rfl, hfin, below_next hb1.out hbr.out⟩

set_option maxHeartbeats 1000000 in
theorem gcontains_any (v : Value) (l : List Gr) (g : Gr) (w : World) (h : Gs w v l) :
    Calls Tryd.prog 61 #[v, gv g] w fun e w' => e = .returned (.bool (l.contains g)) ∧ Below w.heap.size w w' := by
  have hb1 := (Below.refl w.heap.size w).alloc (Nat.le_refl _) (.cells #[.int .i64 g.1, .int .i64 g.2.1, .int .i64 g.2.2] 74)
  have HI := Lib.hid (gindex_any v l g _ (Three.Ss.below h hb1))
  obtain ⟨a0, a1, a2⟩ := g
  replace hb1 := Lib.hid hb1
  clear h
  generalize l.contains (a0, a1, a2) = q at *
  go_enter Tryd.func61, Tryd.ntmps61
  go_wp2_with fail
  refine HI.out.mono ?_
  rintro e w2 ⟨r, rfl, hr, hb⟩
  have hfin := Lib.hid (below_next hb1.out hb)
  clear hb hb1 HI
  go_wp2_with fail
  go_ret
  exact ⟨by rw [← hr.out]; rfl, hfin.out⟩

set_option maxHeartbeats 1000000 in
theorem may_any (v : Value) (l : List Gr) (g : Gr) (w : World) (h : Gs w v l) :
    Calls Tryd.prog 37 #[v, gv g] w fun e w' => e = .returned (.bool (l.contains g)) ∧ Below w.heap.size w w' := by
  have hb1 := (Below.refl w.heap.size w).alloc (Nat.le_refl _) (.cells #[.int .i64 g.1, .int .i64 g.2.1, .int .i64 g.2.2] 74)
  have HI := Lib.hid (gcontains_any v l g _ (Three.Ss.below h hb1))
  obtain ⟨a0, a1, a2⟩ := g
  replace hb1 := Lib.hid hb1
  clear h
  generalize l.contains (a0, a1, a2) = q at *
  go_enter Tryd.func37, Tryd.ntmps37
  go_wp2_with fail
  refine HI.out.mono ?_
  rintro e w2 ⟨rfl, hb⟩
  have hfin := Lib.hid (below_next hb1.out hb)
  clear hb hb1 HI
  go_wp2_with fail
  go_ret
  exact ⟨rfl, hfin.out⟩

set_option maxHeartbeats 1000000 in
theorem refMay_any (v : Value) (l : List Gr) (g : Gr) (w : World) (h : Gs w v l) :
    Calls Tryd.prog 53 #[v, gv g] w fun e w' => e = .returned (.bool (l.contains g)) ∧ Below w.heap.size w w' := by
  have hbig := h.len
  obtain ⟨ao, cap, rfl, -⟩ := h.shape
  have hb1 := (Below.refl w.heap.size w).alloc (Nat.le_refl _) (.cells #[.int .i64 g.1, .int .i64 g.2.1, .int .i64 g.2.2] 74)
  have HB := Lib.hid (Three.Ss.below h ((Below.refl w.heap.size w).alloc (Nat.le_refl _) (.cells #[.int .i64 g.1, .int .i64 g.2.1, .int .i64 g.2.2] 74)))
  obtain ⟨a0, a1, a2⟩ := g
  obtain ⟨N, hN⟩ : ∃ N, l.length = N := ⟨_, rfl⟩
  have HN := Lib.hid hN
  rw [hN] at hbig HB ⊢
  clear h hN
  go_enter Tryd.func53, Tryd.ntmps53
  go_wp2_with fail
  have HX : Hid (Bx (w.alloc (.cells #[.int .i64 a0, .int .i64 a1, .int .i64 a2] 74)) w.heap.size 74 (.int .i64 a0) (.int .i64 a1) (.int .i64 a2)) := heap_alloc_new _ _
  replace hb1 := Lib.hid hb1
  generalize w.alloc (.cells #[.int .i64 a0, .int .i64 a1, .int .i64 a2] 74) = w1 at *
  obtain ⟨B, hB⟩ : ∃ B, w.heap.size = B := ⟨_, rfl⟩
  rw [hB] at HX
  rw [hB]
  clear hB
  go_loopw [5] (fun i wr => ∃ k : Nat, k ≤ N ∧ i = .int .i64 k ∧ Hid (∀ i (_ : i < l.length), i < k → l[i] ≠ (a0, a1, a2)) ∧ Hid (Below w1.heap.size w1 wr)) (fun i _ => N - (intOf i).toNat)
  case atStart => exact ⟨0, by omega, rfl, fun i _ hi => absurd hi (Nat.not_lt_zero _), Below.refl _ _⟩
  case round =>
    obtain ⟨k, hk, rfl, hno, hbr⟩ := hrel
    by_cases hkN : k < N
    · have hkl : k < l.length := by have := HN.out; omega
      obtain ⟨c0, c1, c2⟩ := (Bx.later HX.out hbr.out).cells
      obtain ⟨b, off, rfl, hc⟩ := Gs.at3 (Three.Ss.below HB.out hbr.out) hkl
      obtain ⟨p0, p1, p2⟩ := hc k hkl
      have hyes := Lib.hid (contains_yes (g := (a0, a1, a2)) hkl)
      have hnext := Lib.hid (no_more hno.out hkl)
      obtain ⟨y, hy⟩ : ∃ y, l[k] = y := ⟨_, rfl⟩
      rw [hy] at p0 p1 p2 hyes hnext
      clear hy hno hc hkl
      have hq := gr_eql y (a0, a1, a2)
      have hg := fun u z => gr_guard .eql u z #[.int .i64 y.1, .int .i64 y.2.1, .int .i64 y.2.2] #[.int .i64 a0, .int .i64 a1, .int .i64 a2]
      obtain ⟨y0, y1, y2⟩ := y
      unfold gv at hq
      simp only [] at p0 p1 p2 hq hg
      cases he : ((y0, y1, y2) == (a0, a1, a2)) with
      | true =>
        rw [he] at hq
        have hfin : Hid (l.contains (a0, a1, a2) = true) := by
          unfold Hid
          rw [beq_iff_eq] at he
          rw [hyes.out he]
        clear hyes hnext he
        go_wp2_with fail
        go_quiet (fail)
        clear p0 p1 p2 hq hg c0 c1 c2
        go_wp2_with fail
        go_ret
        exact ⟨by rw [hfin.out]; rfl, below_next (below_next hb1.out hbr.out) (below_drewN _ _)⟩
      | false =>
        rw [he] at hq
        have hne : Hid (∀ i (_ : i < l.length), i < k + 1 → l[i] ≠ (a0, a1, a2)) := hnext.out (by rintro h; rw [beq_eq_false_iff_ne] at he; exact he h)
        clear hyes hnext he
        go_wp2_with fail
        go_quiet (fail)
        clear p0 p1 p2 hq hg c0 c1 c2
        go_wp2_with fail
        go_roundw
        case rel => exact ⟨k + 1, by omega, by go_num, hne, below_next hbr.out (below_drewN _ _)⟩
        case measure => simp [intOf]; omega
    · have hfin : Hid (l.contains (a0, a1, a2) = false) := contains_no fun i hi => hno.out i hi (by have := HN.out; omega)
      go_wp2_with fail
      go_ret
      exact ⟨by rw [hfin.out]; rfl, below_next hb1.out hbr.out⟩

end Go.Proofs.YtmapmeacjpoaoaaDoor
namespace Go.Proofs.YtmapmeacjpoaoaaDoor
open Go Go.RowKit

/-- An operation: its numbers, its texts, and what it keeps. -/
structure Op11 (κ : Type) where
  kind : Int
  level : Int
  ses : Int
  snap : Int
  bucket : List UInt8
  key : List UInt8
  val : List UInt8
  label : Int
  to : Int
  n : Int
  keep : κ
/-- As it lies in memory, and as it reads. -/
abbrev Rop : Type := Op11 Value
abbrev Opr : Type := Op11 (List (List UInt8))
def Op11.put {κ μ : Type} (o : Op11 κ) (u : μ) : Op11 μ := ⟨o.kind, o.level, o.ses, o.snap, o.bucket, o.key, o.val, o.label, o.to, o.n, u⟩
def Op11.cs (r : Rop) : List Value := [.int .i64 r.kind, .int .i64 r.level, .int .i64 r.ses, .int .i64 r.snap, .string (str r.bucket), .string (str r.key), .string (str r.val), .int .i64 r.label, .int .i64 r.to, .int .i64 r.n, r.keep]
abbrev opv (r : Rop) : Value := .agg #[.int .i64 r.kind, .int .i64 r.level, .int .i64 r.ses, .int .i64 r.snap, .string (str r.bucket), .string (str r.key), .string (str r.val), .int .i64 r.label, .int .i64 r.to, .int .i64 r.n, r.keep]
def opCells (l : List Rop) : List Value := l.flatMap Op11.cs
theorem opCells_cons (r : Rop) (l : List Rop) : opCells (r :: l) = r.cs ++ opCells l := rfl
theorem opCells_length : ∀ l : List Rop, (opCells l).length = l.length * 11
  | [] => rfl
  | r :: l => by rw [opCells_cons, List.length_append, opCells_length l, List.length_cons]; simp [Op11.cs]; omega
theorem opCells_append (l m : List Rop) : opCells (l ++ m) = opCells l ++ opCells m := by simp [opCells]
theorem opCells_take : ∀ (l : List Rop) (k : Nat), (opCells l).take (k * 11) = opCells (l.take k)
  | _, 0 => by simp [opCells]
  | [], k + 1 => by simp [opCells]
  | r :: l, k + 1 => by
    rw [opCells_cons, List.take_succ_cons, opCells_cons, ← opCells_take l k]
    have e : (k + 1) * 11 = r.cs.length + k * 11 := by simp [Op11.cs]; omega
    rw [e, List.take_append, List.take_of_length_le (by omega), Nat.add_sub_cancel_left]
theorem opCells_at : ∀ (l : List Rop) (i : Nat) (hi : i < l.length) (j : Nat) (_ : j < 11), (opCells l)[i * 11 + j]? = l[i].cs[j]?
  | [], i, hi, _, _ => by simp at hi
  | r :: l, 0, _, j, hj => by
    rw [opCells_cons, Nat.zero_mul, Nat.zero_add, List.getElem?_append_left (by simp [Op11.cs]; omega)]
    rfl
  | r :: l, i + 1, hi, j, hj => by
    rw [opCells_cons, List.getElem?_append_right (by simp [Op11.cs]; omega)]
    have e : (i + 1) * 11 + j - r.cs.length = i * 11 + j := by simp [Op11.cs]; omega
    rw [e, opCells_at l i (by simpa using hi) j hj]
    rfl
theorem op_oneCell {us : List Rop} (h : ∀ r ∈ us, ∃ a n c, r.keep = .slice a n c) : ∀ u ∈ opCells us, u.oneCell' = true := by
  intro u hu
  obtain ⟨r, hr, h2⟩ := List.mem_flatMap.1 hu
  obtain ⟨a, n, c, e⟩ := h r hr
  simp only [Op11.cs, List.mem_cons, List.not_mem_nil, or_false] at h2
  rcases h2 with rfl | rfl | rfl | rfl | rfl | rfl | rfl | rfl | rfl | rfl | rfl
  all_goals first | rfl | (rw [e]; rfl)

/-- Texts as cells. -/
def strCells (l : List (List UInt8)) : List Value := l.map fun s => .string (str s)
theorem strCells_length (l : List (List UInt8)) : (strCells l).length = l.length := by simp [strCells]
theorem str_oneCell (l : List (List UInt8)) : ∀ u ∈ strCells l, u.oneCell' = true := by
  intro u hu
  obtain ⟨_, _, rfl⟩ := List.mem_map.1 hu
  rfl
/-- The slice value v reads as the texts l. -/
def Ks (w : World) (v : Value) (l : List (List UInt8)) : Prop := Sl w 1 l.length v (strCells l)
theorem Ks.below {w w' : World} {v : Value} {l : List (List UInt8)} (h : Ks w v l) (hb : Below w.heap.size w w') : Ks w' v l := Sl.below h hb
theorem Ks.nil (w : World) : Ks w (.slice none 0 0) [] := Sl.nil w 1
theorem Ks.shape {w : World} {v : Value} {l : List (List UInt8)} (h : Ks w v l) : ∃ ao cap, v = .slice ao l.length cap ∧ l.length ≤ cap := Sl.shape h
theorem Ks.len {w : World} {v : Value} {l : List (List UInt8)} (h : Ks w v l) : l.length ≤ 9223372036854775807 := by
  obtain ⟨_, ao, cap, _, h1, h2, _⟩ := h
  unfold maxLen at h2
  omega
theorem Ks.of_owns {w : World} {base e n : Nat} {v : Value} {l : List (List UInt8)} (h : w.ownsRow base e 1 v n (strCells l)) : Ks w v l := by
  have := Sl.of_owns h
  have e : n = l.length := by have h1 := h.1; rw [strCells_length] at h1; omega
  subst e
  exact this
theorem Ks.at {w : World} {ao : Option Addr} {n cap : Nat} {l : List (List UInt8)} (h : Ks w (.slice ao n cap) l) {j : Nat} (hj : j < l.length) :
    ∃ b off, ao = some ⟨b, off, none⟩ ∧ ∀ W, Below w.heap.size w W → ∀ i (hi : i < l.length), W.cell? ⟨b, off + i, none⟩ = some (.string (str l[i])) := by
  obtain ⟨b, off, rfl, -⟩ := Sl.at (j := j) h (by simpa [strCells] using hj)
  refine ⟨b, off, rfl, fun W hW i hi => ?_⟩
  obtain ⟨b', off', e, hc⟩ := Sl.at (j := j) (Sl.below h hW) (by simpa [strCells] using hj)
  obtain ⟨rfl, rfl⟩ : b = b' ∧ off = off' := by simpa using e
  have := hc i (by simpa [strCells] using hi)
  rw [this]
  simp [strCells]

/-- Eleven cells in a row. -/
structure OpAt (W : World) (b o : Nat) (r : Rop) : Prop where
  c0 : W.cell? ⟨b, o, none⟩ = some (.int .i64 r.kind)
  c1 : W.cell? ⟨b, o + 1, none⟩ = some (.int .i64 r.level)
  c2 : W.cell? ⟨b, o + 2, none⟩ = some (.int .i64 r.ses)
  c3 : W.cell? ⟨b, o + 3, none⟩ = some (.int .i64 r.snap)
  c4 : W.cell? ⟨b, o + 4, none⟩ = some (.string (str r.bucket))
  c5 : W.cell? ⟨b, o + 5, none⟩ = some (.string (str r.key))
  c6 : W.cell? ⟨b, o + 6, none⟩ = some (.string (str r.val))
  c7 : W.cell? ⟨b, o + 7, none⟩ = some (.int .i64 r.label)
  c8 : W.cell? ⟨b, o + 8, none⟩ = some (.int .i64 r.to)
  c9 : W.cell? ⟨b, o + 9, none⟩ = some (.int .i64 r.n)
  c10 : W.cell? ⟨b, o + 10, none⟩ = some r.keep

/-- The slice value v reads as the operations l. -/
def Os (w : World) (v : Value) (l : List Opr) : Prop := ∃ us : List Value, us.length = l.length ∧ Sl w 11 l.length v (opCells (List.zipWith Op11.put l us)) ∧ ∀ i (h : i < us.length) (h2 : i < l.length), Ks w us[i] l[i].keep
theorem Os.below {w w' : World} {v : Value} {l : List Opr} (h : Os w v l) (hb : Below w.heap.size w w') : Os w' v l := by
  obtain ⟨us, h0, h1, h2⟩ := h
  exact ⟨us, h0, h1.below hb, fun i a b => (h2 i a b).below hb⟩
theorem Os.shape {w : World} {v : Value} {l : List Opr} (h : Os w v l) : ∃ ao cap, v = .slice ao l.length cap ∧ l.length ≤ cap := by
  obtain ⟨us, h0, h1, -⟩ := h
  exact h1.shape
theorem Os.len {w : World} {v : Value} {l : List Opr} (h : Os w v l) : l.length ≤ 9223372036854775807 := by
  obtain ⟨us, _, ⟨_, ao, cap, _, h1, h2, _⟩, -⟩ := h
  unfold maxLen at h2
  omega
theorem Os.nil (w : World) : Os w (.slice none 0 0) [] := ⟨[], rfl, Sl.nil w 11, fun i h => by simp at h⟩
theorem Os.at {w : World} {ao : Option Addr} {n cap : Nat} {l : List Opr} (h : Os w (.slice ao n cap) l) {j : Nat} (hj : j < l.length) :
    ∃ b off u, ao = some ⟨b, off, none⟩ ∧ Ks w u l[j].keep ∧ ∀ W, Below w.heap.size w W → OpAt W b (off + j * 11) (l[j].put u) := by
  obtain ⟨us, h0, h1, h2⟩ := h
  have hzl : (List.zipWith Op11.put l us).length = l.length := by simp [h0]
  have hcl := opCells_length (List.zipWith Op11.put l us)
  rw [hzl] at hcl
  obtain ⟨b, off, rfl, -⟩ := h1.at (j := j * 11) (by omega)
  refine ⟨b, off, us[j]'(by omega), rfl, h2 j (by omega) hj, fun W hW => ?_⟩
  obtain ⟨b', off', e, hc⟩ := (h1.below hW).at (j := j * 11) (by omega)
  obtain ⟨rfl, rfl⟩ : b = b' ∧ off = off' := by simpa using e
  have key : ∀ i (hi : i < 11), W.cell? ⟨b, off + j * 11 + i, none⟩ = (Op11.put l[j] (us[j]'(by omega))).cs[i]? := fun i hi => by
    have h3 := opCells_at (List.zipWith Op11.put l us) j (by omega) i hi
    obtain ⟨h4, h5⟩ := List.getElem?_eq_some_iff.1 (show (opCells (List.zipWith Op11.put l us))[j * 11 + i]? = some ((opCells (List.zipWith Op11.put l us))[j * 11 + i]'(by omega)) from List.getElem?_eq_getElem _)
    rw [Nat.add_assoc, hc (j * 11 + i) (by omega), ← List.getElem?_eq_getElem, h3]
    simp
  exact ⟨key 0 (by decide), key 1 (by decide), key 2 (by decide), key 3 (by decide), key 4 (by decide), key 5 (by decide), key 6 (by decide), key 7 (by decide), key 8 (by decide), key 9 (by decide), key 10 (by decide)⟩

/-- A configuration's parts. -/
abbrev cfv (vn vu vq vg : Value) : Value := .agg #[vn, vu, vq, vg]

namespace L
def inn (s : Nat) (x : Int) : Bool := decide (0 ≤ x) && (decide (x < 64) && s.testBit x.toNat)
def flows (gs : List Gr) (o : Opr) (s : Nat) : Bool := decide (o.kind = 15) && (inn s o.to && gs.contains (o.level, o.label, o.to))
end L

set_option maxHeartbeats 400000 in
theorem in_any (s : Nat) (x : Int) (hs : s < 18446744073709551616) (w : World) :
    Calls Tryd.prog 36 #[.int .u64 s, .int .i64 x] w fun e w' => e = .returned (.bool (L.inn s x)) ∧ w = w' := by
  unfold L.inn
  by_cases h0 : 0 ≤ x
  · by_cases h1 : x < 64
    · obtain ⟨k, rfl⟩ : ∃ k : Nat, x = (k : Int) := ⟨x.toNat, by omega⟩
      have hk : k < 64 := by omega
      have d0 : decide ((0 : Int) ≤ (k : Int)) = true := by simp
      have d1 : decide ((k : Int) < 64) = true := by simpa using h1
      have e1 := bit_and s k hs
      rw [d0, d1, Int.toNat_natCast]
      go_enter Tryd.func36, Tryd.ntmps36
      go_wp2_with fail
      go_ret
      exact ⟨ret_bool (by rw [Bool.true_and, Bool.true_and]; exact bit_eq s k), rfl⟩
    · have d0 : decide ((0 : Int) ≤ x) = true := by simpa using h0
      have d1 : decide (x < 64) = false := by simpa using h1
      rw [d0, d1]
      go_enter Tryd.func36, Tryd.ntmps36
      go_wp2_with fail
      go_ret
      exact ⟨rfl, rfl⟩
  · have d0 : decide ((0 : Int) ≤ x) = false := by simpa using h0
    rw [d0]
    go_enter Tryd.func36, Tryd.ntmps36
    go_wp2_with fail
    go_ret
    exact ⟨rfl, rfl⟩
end Go.Proofs.YtmapmeacjpoaoaaDoor
namespace Go.Proofs.YtmapmeacjpoaoaaDoor
open Go Go.RowKit

set_option maxHeartbeats 1000000 in
theorem flows_any (vn vu vq vg : Value) (gs : List Gr) (o : Opr) (u : Value) (s : Nat) (w : World) (hg : Gs w vg gs) (hs : s < 18446744073709551616) :
    Calls Tryd.prog 15 #[cfv vn vu vq vg, opv (o.put u), .int .u64 s] w fun e w' => e = .returned (.bool (L.flows gs o s)) ∧ Below w.heap.size w w' := by
  have HM := Lib.hid (fun W (hW : Below w.heap.size w W) => may_any vg gs (o.level, o.label, o.to) W (Three.Ss.below hg hW))
  have HI := Lib.hid (fun W => in_any s o.to hs W)
  obtain ⟨o0, o1, o2, o3, o4, o5, o6, o7, o8, o9, k⟩ := o
  have hb : Below w.heap.size w ((w.alloc (.cells #[vn, vu, vq, vg] 27)).alloc (.cells #[.int .i64 o0, .int .i64 o1, .int .i64 o2, .int .i64 o3, .string (str o4), .string (str o5), .string (str o6), .int .i64 o7, .int .i64 o8, .int .i64 o9, u] 33)) := ((Below.refl _ _).alloc (Nat.le_refl _) _).alloc (by simp) _
  have HBX := Lib.hid hb
  clear hb hg
  simp only [Op11.put, L.flows] at HM HI ⊢
  by_cases h15 : o0 = 15
  · have d0 : (o0 == 15) = true := by simp [h15]
    have d0' : decide (o0 = 15) = true := by simp [h15]
    rw [d0', Bool.true_and]
    clear d0'
    subst h15
    generalize gs.contains (o1, o7, o8) = c at *
    cases hbt : L.inn s o8 with
    | true =>
      rw [hbt] at HI
      rw [Bool.true_and]
      clear hbt
      go_enter Tryd.func15, Tryd.ntmps15
      go_wp2_with fail
      refine (HI.out _).mono ?_
      rintro e w' ⟨rfl, rfl⟩
      go_wp2_with fail
      refine (HM.out _ HBX.out).mono ?_
      rintro e w2 ⟨rfl, hx⟩
      have hfin := Lib.hid (below_next HBX.out hx)
      clear hx HM HI
      go_wp2_with fail
      go_ret
      exact ⟨rfl, hfin.out⟩
    | false =>
      rw [hbt] at HI
      rw [Bool.false_and]
      clear hbt HM
      go_enter Tryd.func15, Tryd.ntmps15
      go_wp2_with fail
      refine (HI.out _).mono ?_
      rintro e w' ⟨rfl, rfl⟩
      go_wp2_with fail
      go_ret
      exact ⟨rfl, HBX.out⟩
  · have d0 : (o0 == 15) = false := by simp [h15]
    have d0' : decide (o0 = 15) = false := by simp [h15]
    rw [d0', Bool.false_and]
    clear HM h15 d0'
    go_enter Tryd.func15, Tryd.ntmps15
    go_wp2_with fail
    go_ret
    exact ⟨rfl, HBX.out⟩

end Go.Proofs.YtmapmeacjpoaoaaDoor
namespace Go.Proofs.YtmapmeacjpoaoaaDoor
open Go

theorem low_form {y : Nat} (h0 : y ≠ 0) (h : y < 2 ^ 64) : ∃ m, y = 2 ^ Lib.ctz 64 y * (2 * m + 1) ∧ Lib.ctz 64 y < 64 := by
  obtain ⟨m, hm, hk⟩ := Lib.ctzFrom_spec 64 y (by omega) h
  have e : Lib.ctz 64 y = Lib.ctzFrom 64 y := by simp [Lib.ctz, h0]
  rw [e]
  exact ⟨m, hm, hk⟩
theorem testBit_low (k m i : Nat) : (2 ^ k * (2 * m + 1)).testBit i = (decide (k = i) || (decide (k < i) && m.testBit (i - k - 1))) := by
  rw [Nat.testBit_two_pow_mul]
  by_cases h : k ≤ i
  · by_cases he : k = i
    · subst he; simp
    · obtain ⟨j, rfl⟩ : ∃ j, i = k + (j + 1) := ⟨i - k - 1, by omega⟩
      rw [show k + (j + 1) - k = j + 1 by omega, Nat.testBit_succ, show (2 * m + 1) / 2 = m by omega]
      simp [show k < k + (j + 1) by omega]
  · simp [h, show ¬ k = i by omega, show ¬ k < i by omega]
theorem testBit_less (k m i : Nat) : (2 ^ k * (2 * m + 1) - 1).testBit i = (decide (i < k) || (decide (k < i) && m.testBit (i - k - 1))) := by
  have e : 2 ^ k * (2 * m + 1) - 1 = 2 ^ k * (2 * m) + (2 ^ k - 1) := by
    have := Nat.two_pow_pos k
    rw [Nat.mul_add, Nat.mul_one]
    omega
  rw [e, Nat.testBit_two_pow_mul_add _ (by have := Nat.two_pow_pos k; omega), Nat.testBit_two_pow_sub_one]
  by_cases h : i < k
  · simp [h]
  · by_cases he : k = i
    · subst he; simp [Nat.testBit_zero]
    · obtain ⟨j, rfl⟩ : ∃ j, i = k + (j + 1) := ⟨i - k - 1, by omega⟩
      rw [if_neg h, show k + (j + 1) - k = j + 1 by omega, Nat.testBit_succ, show 2 * m / 2 = m by omega]
      simp [show ¬ k + (j + 1) < k by omega, show k < k + (j + 1) by omega]
/-- y & (y - 1): the lowest bit is gone, and no other. -/
theorem testBit_clear {y : Nat} (h0 : y ≠ 0) (h : y < 2 ^ 64) (i : Nat) : (y &&& (y - 1)).testBit i = (y.testBit i && !decide (i = Lib.ctz 64 y)) := by
  obtain ⟨m, hm, -⟩ := low_form h0 h
  generalize Lib.ctz 64 y = k at *
  subst hm
  rw [Nat.testBit_and, testBit_low, testBit_less]
  by_cases h1 : i < k
  · simp [show ¬ k = i by omega, show ¬ k < i by omega]
  · by_cases h2 : k = i
    · subst h2; simp
    · simp [h1, h2, show k < i by omega, show ¬ i = k by omega]
theorem testBit_ctz {y : Nat} (h0 : y ≠ 0) (h : y < 2 ^ 64) : y.testBit (Lib.ctz 64 y) = true ∧ ∀ i, i < Lib.ctz 64 y → y.testBit i = false := by
  obtain ⟨m, hm, -⟩ := low_form h0 h
  generalize Lib.ctz 64 y = k at *
  subst hm
  exact ⟨by rw [testBit_low]; simp, fun i hi => by rw [testBit_low]; simp [show ¬ k = i by omega, show ¬ k < i by omega]⟩
theorem bitsFrom_skip {y z k : Nat} (hk : y.testBit k = true) (hlow : ∀ i, i < k → y.testBit i = false) (hz : ∀ i, z.testBit i = (y.testBit i && !decide (i = k))) :
    ∀ m j, (k < j → bitsFrom z j m = bitsFrom y j m) ∧ (j ≤ k → k < j + m → bitsFrom y j m = k :: bitsFrom z j m)
  | 0, j => ⟨fun _ => rfl, fun h1 h2 => by omega⟩
  | m + 1, j => by
    obtain ⟨ih1, ih2⟩ := bitsFrom_skip hk hlow hz m (j + 1)
    refine ⟨fun h => ?_, fun h1 h2 => ?_⟩
    · unfold bitsFrom
      rw [hz, ih1 (by omega)]
      simp [show ¬ j = k by omega]
    · by_cases he : j = k
      · subst he
        unfold bitsFrom
        rw [hz, hk, ih1 (by omega)]
        simp
      · unfold bitsFrom
        rw [hz, hlow j (by omega), ih2 (by omega) (by omega)]
        simp
theorem bitsOf_step {y : Nat} (h0 : y ≠ 0) (h : y < 2 ^ 64) : bitsOf y = Lib.ctz 64 y :: bitsOf (y &&& (y - 1)) := by
  obtain ⟨h1, h2⟩ := testBit_ctz h0 h
  obtain ⟨_, _, hk⟩ := low_form h0 h
  exact (bitsFrom_skip h1 h2 (testBit_clear h0 h) 64 0).2 (Nat.zero_le _) (by omega)
theorem bitsOf_zero : bitsOf 0 = [] := by decide
theorem clear_lt {y : Nat} (h : y < 2 ^ 64) : y &&& (y - 1) < 2 ^ 64 := Nat.lt_of_le_of_lt Nat.and_le_left h
theorem bitsOf_length (x : Nat) : (bitsOf x).length ≤ 64 := go x 64 0
where go (x : Nat) : ∀ m j, (bitsFrom x j m).length ≤ m
  | 0, _ => Nat.le_refl _
  | m + 1, j => by
    unfold bitsFrom
    have := go x m (j + 1)
    split
    · rw [List.length_cons]; omega
    · omega
theorem bitsOf_lt {x i : Nat} (h : i ∈ bitsOf x) : i < 64 := by
  rw [bitsOf, mem_bitsFrom] at h
  omega
end Go.Proofs.YtmapmeacjpoaoaaDoor
namespace Go.Proofs.YtmapmeacjpoaoaaDoor
open Go Go.RowKit

/-- The library's table lies in its variable. -/
def DTab (w : World) : Prop := ∀ j, j < 64 → w.cell? ⟨0, j, none⟩ = some (.int .u8 (Lib.deBruijn64tab.getD j 0 : Nat))
theorem DTab.below {w w' : World} (h : DTab w) (hb : Below w.heap.size w w') : DTab w' := fun j hj =>
  (hb.cell (p := ⟨0, j, none⟩) (World.block_lt_of_cell? w _ (h j hj))).trans (h j hj)

theorem DTab.same {w w' : World} (h : DTab w) (hb : w'.heap[0]? = w.heap[0]?) : DTab w' := fun j hj =>
  (World.cell?_of_block (a := ⟨0, j, none⟩) hb).trans (h j hj)
theorem DTab.lt {w : World} (h : DTab w) : 0 < w.heap.size := World.block_lt_of_cell? w _ (h 0 (by decide))

set_option maxHeartbeats 400000 in
theorem tz_any (y : Nat) (h0 : y ≠ 0) (hy : y < 18446744073709551616) (w : World) (ht : DTab w) :
    Calls Tryd.prog 69 #[.int .u64 y] w fun e w' => e = .returned (.int .i64 (Lib.ctz 64 y : Nat)) ∧ w = w' := by
  obtain ⟨hl1, hl2⟩ := Lib.lowest_bit 64 y h0 hy
  obtain ⟨hd1, hd2⟩ := Lib.deBruijn64_at _ hl2
  have hz : ((y : Int) == 0) = false := by rw [beq_eq_false_iff_ne]; omega
  have hneg : IntKind.u64.wrap (-(y : Int)) = ((2 ^ 64 - y : Nat) : Int) := by rw [IntKind.wrap_u64]; omega
  have hand : bits BinOp.and IntKind.u64 (y : Int) ((2 ^ 64 - y : Nat) : Int) = ((2 ^ Lib.ctz 64 y : Nat) : Int) := by
    rw [u64_and_nat _ _ hy (by omega), hl1]
  have hc := ht _ hd1
  rw [hd2] at hc
  have hw : IntKind.u64.wrap (2 ^ Lib.ctz 64 y * 285870213051353865) = ((2 ^ Lib.ctz 64 y * 285870213051353865 % 18446744073709551616 : Nat) : Int) := by
    rw [IntKind.wrap_u64, Int.natCast_emod, Int.natCast_mul, Int.natCast_pow]; rfl
  clear h0 hl1 hd2
  obtain ⟨q, hq⟩ : ∃ q, 2 ^ Lib.ctz 64 y * 285870213051353865 % 18446744073709551616 = q := ⟨_, rfl⟩
  rw [hq] at hw hc hd1
  clear hq
  have hi : (q : Int) / 288230376151711744 = ((q / 288230376151711744 : Nat) : Int) := by omega
  have hi2 : ((q / 288230376151711744 : Nat) : Int) < 64 := by omega
  generalize q / 288230376151711744 = idx at *
  have hctz : Lib.ctz 64 y < 64 := hl2
  generalize Lib.ctz 64 y = k at *
  generalize 2 ^ 64 - y = ny at *
  clear hl2
  go_enter Tryd.func69, Tryd.ntmps69
  go_wp2_with fail
  go_ret
  exact ⟨ret_int rfl, rfl⟩
end Go.Proofs.YtmapmeacjpoaoaaDoor
