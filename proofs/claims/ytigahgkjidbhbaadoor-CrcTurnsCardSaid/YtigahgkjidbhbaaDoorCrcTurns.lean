/- CrcTurns returns true. -/
import Derived.Test.YtigahgkjidbhbaaDoorCrcXors
import Derived.Test.YtigahgkjidbhbaaDoorCopy
namespace Go.Proofs.YtigahgkjidbhbaaDoor
open Go Go.RowKit

theorem two_pow_u8 (j : Nat) (h : j ≤ 7) : (UInt8.ofNat (2 ^ j)).toNat = 2 ^ j := by
  rw [UInt8.toNat_ofNat']
  exact Nat.mod_eq_of_lt (by have := Nat.pow_le_pow_right (show 0 < 2 by decide) h; omega)

set_option maxHeartbeats 2000000 in
theorem crcTurns_any (v : Value) (l : List UInt8) (n t : Nat) (hn : n < 65536) (ht32 : t < 4294967296) (w : World) (hb : Bs w v l) (ht : Tab w) :
    Calls Tryd.prog 5 #[v, .int .u16 n, .int .u32 t] w fun e w' => e = .returned (.bool true) ∧ Below w.heap.size w w' := by
  obtain ⟨-, ao, cap, rfl, hlc, -, -, -⟩ := id hb
  by_cases hskip : l.length < 5 ∨ 2000 < l.length ∨ t = 0
  · by_cases h5 : l.length < 5
    · have hd : decide ((l.length : Int) < 5) = true := by simp; omega
      clear hskip h5
      go_enter Tryd.func5, Tryd.ntmps5
      go_wp2_with fail
      refine (awake_any w ht).mono ?_
      rintro e w1 ⟨rfl, hb1⟩
      go_wp2_with fail
      go_ret
      exact ⟨rfl, hb1⟩
    · by_cases h2 : 2000 < l.length
      · have hd : decide ((l.length : Int) < 5) = false := by simp; omega
        have hd2 : decide ((2000 : Int) < (l.length : Int)) = true := by simp; omega
        clear hskip h5 h2
        go_enter Tryd.func5, Tryd.ntmps5
        go_wp2_with fail
        refine (awake_any w ht).mono ?_
        rintro e w1 ⟨rfl, hb1⟩
        go_wp2_with fail
        go_ret
        exact ⟨rfl, hb1⟩
      · have hd : decide ((l.length : Int) < 5) = false := by simp; omega
        have hd2 : decide ((2000 : Int) < (l.length : Int)) = false := by simp; omega
        have hd3 : ((t : Int) == 0) = true := by rw [beq_iff_eq]; omega
        clear hskip h5 h2
        go_enter Tryd.func5, Tryd.ntmps5
        go_wp2_with fail
        refine (awake_any w ht).mono ?_
        rintro e w1 ⟨rfl, hb1⟩
        go_wp2_with fail
        go_ret
        exact ⟨rfl, hb1⟩
  · have hl5 : (5 : Int) ≤ (l.length : Int) := by omega
    have hl2 : (l.length : Int) ≤ 2000 := by omega
    have ht0 : Hid (t ≠ 0) := fun h => hskip (.inr (.inr h))
    have hd : decide ((l.length : Int) < 5) = false := by simp; omega
    have hd2 : decide ((2000 : Int) < (l.length : Int)) = false := by simp; omega
    have hd3 : ((t : Int) == 0) = false := by rw [beq_eq_false_iff_ne]; omega
    clear hskip
    go_enter Tryd.func5, Tryd.ntmps5
    go_wp2_with fail
    refine (awake_any w ht).mono ?_
    rintro e w1 ⟨rfl, hb1⟩
    have HB1 := hb.below hb1
    have HB0 := Lib.hid hb
    have HT0 := Lib.hid ht
    clear hb ht
    go_wp2_with (at_make; go_must (refine wpList_make_sl rfl _ _ 22 rfl w1.heap.size 5 (.int .u8 0) 1 1 Tryd.underlying22 infoU8 _ _ l.length rfl rfl (by omega) (by unfold maxLen; omega) (Nat.le_refl _) ?_))
    intro w2 hown hgrow
    have hb2 := (Below.refl w1.heap.size w1).grown hgrow (Nat.le_refl _) (by simp)
    have HO := Lib.hid hown
    have HB2 := HB1.below hb2
    clear hown hgrow HB1
    go_wp2_with ((with_reducible (show wpList _ _ _ (⟨some 46, _, _, _, _, _⟩ :: _) _ _)); go_must (refine wpList_copy_sl rfl _ _ 22 rfl w1.heap.size 5 (.int .u8 0) 1 Tryd.underlying22 infoU8 w1.heap.size l.length l.length _ rfl HO.out (.slice ao l.length cap) (byteCells l) rfl HB2 (byteCells_oneCell l) ?_))
    intro w3 hown3 hbel3
    have hb3 := hb2.trans hbel3
    have hkk : (n : Int) % (8 * (l.length : Int) - 32 + 1) = ((n % (8 * l.length - 31) : Nat) : Int) := by
      rw [Int.natCast_emod, show ((8 * l.length - 31 : Nat) : Int) = 8 * (l.length : Int) - 32 + 1 by omega]
    have hbit : Hid (n % (8 * l.length - 31) + 32 ≤ 8 * l.length) := by
      have := Nat.mod_lt n (show 0 < 8 * l.length - 31 by omega)
      unfold Hid
      omega
    simp only [hkk]
    clear hkk
    generalize n % (8 * l.length - 31) = bit at *
    have HO3 := Lib.hid hown3
    have hbit2 : (bit : Int) + 32 ≤ 8 * (l.length : Int) := by have := hbit.out; omega
    clear hown3 hbel3 HO HB2 hb2 hd hd2 hd3
    go_wp2_with fail
    go_loopw [2, 10] (fun tv iv wr => ∃ i : Nat, ∃ m : List UInt8, i ≤ 32 ∧ iv = .int .i64 i ∧ tv = .int .u32 (t / 2 ^ i : Nat) ∧ Hid (wr.ownsRow w1.heap.size 5 1 (.slice (some ⟨w1.heap.size, 0, none⟩) l.length l.length) l.length (byteCells m)) ∧ Hid (C.Turned l m (2 ^ bit * (t % 2 ^ i))) ∧ Below w1.heap.size w1 wr) (fun _ i _ => 32 - (intOf i).toNat)
    case atStart => exact ⟨0, l, by omega, rfl, by simp, HO3, by rw [show t % 2 ^ 0 = 0 from Nat.mod_one t, Nat.mul_zero]; exact C.Turned.start l, hb3⟩
    case round =>
      obtain ⟨i, m, hi, rfl, rfl, hr, hT, hbr⟩ := hrel
      have hq32 : t / 2 ^ i < 4294967296 := Nat.lt_of_le_of_lt (Nat.div_le_self _ _) ht32
      have hqn : Hid (t / 2 ^ i / 2 = t / 2 ^ (i + 1)) := by unfold Hid; rw [Nat.div_div_eq_div_mul, Nat.pow_succ]
      have hml : Hid (m.length = l.length) := hT.out.length
      have hbitT : Hid (t / 2 ^ i % 2 = 1 → ∀ (c : UInt8) (q r : Nat), c.toNat = 2 ^ r → 8 * q + r = bit + i → ∀ hq : q < m.length, C.Turned l (m.set q (m[q] ^^^ c)) (2 ^ bit * (t % 2 ^ (i + 1)))) := fun h c q r h1 h2 hq => hT.out.bit h c q r h1 h2 hq
      have hkeepT : Hid (¬ t / 2 ^ i % 2 = 1 → C.Turned l m (2 ^ bit * (t % 2 ^ (i + 1)))) := fun h => hT.out.keep h
      obtain ⟨tq, htq⟩ : ∃ tq, t / 2 ^ i = tq := ⟨_, rfl⟩
      rw [htq] at hq32 hqn hbitT hkeepT
      simp only [htq]
      have HTQ := Lib.hid htq
      clear htq
      by_cases hlt : i < 32
      · by_cases hodd : tq % 2 = 1
        · have hd1 : ((tq : Int) % 2 == 1) = true := by rw [beq_iff_eq]; omega
          have hbT := Lib.hid (hbitT.out hodd)
          clear hodd hbitT hkeepT
          obtain ⟨k, hk⟩ : ∃ k, k = bit + i := ⟨_, rfl⟩
          have hkI : (bit : Int) + (i : Int) = (k : Int) := by omega
          have hkl : (k : Int) < 8 * (l.length : Int) := by omega
          have HK := Lib.hid hk
          clear hk
          have hltI : (i : Int) < 32 := by omega
          go_wp2_with fail
          go_loop [12, 13] (fun ov jv => ∃ j : Nat, j ≤ k % 8 ∧ jv = .int .i64 j ∧ ov = .int .u8 (2 ^ j : Nat)) (fun _ jv => 8 - (intOf jv).toNat)
          case atStart => exact ⟨0, by omega, rfl, rfl⟩
          case round =>
            obtain ⟨j, hj, rfl, rfl⟩ := hrel
            by_cases hj8 : j < k % 8
            · have hjI : (j : Int) < (k : Int) % 8 := by omega
              have hp : 2 ^ (j + 1) ≤ 2 ^ 7 := Nat.pow_le_pow_right (by decide) (by omega)
              have hps : Hid (2 ^ (j + 1) = 2 ^ j * 2) := Nat.pow_succ 2 j
              have hp2 : 2 ^ j * 2 ≤ 128 := by rw [← hps.out]; exact hp
              clear hp
              obtain ⟨p, hpp⟩ : ∃ p, 2 ^ j = p := ⟨_, rfl⟩
              rw [hpp] at hp2 hps
              simp only [hpp]
              clear hpp
              go_wp2_with fail
              go_round
              case rel => exact ⟨j + 1, by omega, by go_num, by rw [hps.out]; go_num⟩
              case measure => simp [intOf]; omega
            · obtain rfl : j = k % 8 := by omega
              have hjI : ¬ ((k : Int) % 8 < (k : Int) % 8) := by omega
              have hqm : k / 8 < m.length := by rw [hml.out]; omega
              have hbk := hbT.out (UInt8.ofNat (2 ^ (k % 8))) (k / 8) (k % 8) (two_pow_u8 _ (by omega)) (by rw [← HK.out]; omega) hqm
              have HBK := Lib.hid hbk
              clear hbk
              have hcell : wr.cell? ⟨w1.heap.size, k / 8, none⟩ = some (.int .u8 (m[k / 8].toNat : Int)) := by
                rw [hr.out.cellAt (k / 8) (by rw [← hml.out]; omega), byteCells, List.getElem?_map, List.getElem?_eq_getElem hqm]
                rfl
              have hfr := hr.out.frozenAt (k / 8)
              have hst := hr.out.stored (k / 8) (.int .u8 ((m[k / 8] ^^^ UInt8.ofNat (2 ^ (k % 8))).toNat : Int))
              have hset : (byteCells m).set (k / 8) (.int .u8 ((m[k / 8] ^^^ UInt8.ofNat (2 ^ (k % 8))).toNat : Int)) = byteCells (m.set (k / 8) (m[k / 8] ^^^ UInt8.ofNat (2 ^ (k % 8)))) := by
                unfold byteCells
                rw [List.map_set]
              rw [hset] at hst
              have HST := Lib.hid hst.1
              clear hst hset
              have hx := xor_u8 m[k / 8] (UInt8.ofNat (2 ^ (k % 8)))
              rw [two_pow_u8 _ (by omega)] at hx
              have hcast : ((k : Int) / 8) = ((k / 8 : Nat) : Int) := by omega
              have hin : ((k / 8 : Nat) : Int) < (l.length : Int) := by omega
              have hin0 : k / 8 < l.length := by omega
              obtain ⟨z, hz⟩ : ∃ z, m[k / 8] ^^^ UInt8.ofNat (2 ^ (k % 8)) = z := ⟨_, rfl⟩
              obtain ⟨y, hy⟩ : ∃ y, m[k / 8] = y := ⟨_, rfl⟩
              rw [hz] at hx HBK HST
              rw [hy] at hx hcell
              obtain ⟨p, hp⟩ : ∃ p, 2 ^ (k % 8) = p := ⟨_, rfl⟩
              rw [hp] at hx
              simp only [hp]
              clear hz hy hp hqm hj hjI hkl hlt hi
              generalize k / 8 = q at *
              go_wp2_with fail
              clear hx hcell hfr hcast hin hin0
              go_roundw
              case rel => exact ⟨i + 1, _, by omega, by go_num, by rw [← hqn.out]; go_num, HST.out, HBK.out, hbr.setCell (Nat.le_refl _) _⟩
              case measure => simp [intOf]; omega
        · have hd1 : ((tq : Int) % 2 == 1) = false := by rw [beq_eq_false_iff_ne]; omega
          have hbT := Lib.hid (hkeepT.out hodd)
          clear hodd hbitT hkeepT
          have hltI : (i : Int) < 32 := by omega
          go_wp2_with fail
          go_roundw
          case rel => exact ⟨i + 1, _, by omega, by go_num, by rw [← hqn.out]; go_num, hr.out, hbT.out, hbr⟩
          case measure => simp [intOf]; omega
      · obtain rfl : i = 32 := by omega
        have hne := hT.out.done ht32 ht0.out hbit.out
        have HBr := HB0.out.below (below_next hb1 hbr)
        have HTr := HT0.out.below (below_next hb1 hbr)
        have HMr := Bs.of_owns hr.out
        have hbr0 := below_next hb1 hbr
        have HNE := Lib.hid hne
        have hm2 : m.length ≤ 2000 := by rw [hml.out]; omega
        clear hT hr hbr hbitT hkeepT hqn HTQ hq32 hlt hi hne
        go_wp2_with fail
        refine (tag_any _ l wr HBr HTr (by omega)).mono ?_
        rintro e w4 ⟨vt, rfl, hown, hbel⟩
        have hb4 := below_next hbr0 hbel
        have HT4 := Bs.of_owns hown
        have HM4 := HMr.below hbel
        have ht4 := HTr.below hbel
        clear hown hbel HMr HTr HBr hbr0
        obtain ⟨aot, capt, rfl, hct⟩ := HT4.shape
        have htl : (C.tag l).length = l.length + 4 := C.tag_length l
        obtain ⟨v4, hv4, hr4⟩ := run_btake (P := Tryd.prog) Tryd.underlying22 infoU8 HT4 .i64 4 (by omega)
        rw [show ((4 : Nat) : Int) = 4 from rfl] at hr4
        have hn4 : (C.tag l).take 4 = C.num4 (C.of l) := by simp [C.tag, C.num4]
        rw [hn4] at hv4
        clear HT4 htl hct hn4
        go_wp2_with ((with_reducible (show wpList _ _ _ (⟨some 83, _, _, _, _, _⟩ :: _) _ _)); go_must (refine wpList_append_sl rfl _ _ 22 rfl w4.heap.size 5 (.int .u8 0) 1 1 Tryd.underlying22 infoU8 rfl (by decide) _ _ _ rfl (World.ownsRow_nil _ _ _ _) v4 4 (byteCells (C.num4 (C.of l))) rfl hv4 (byteCells_oneCell _) (by unfold maxLen; omega) (by omega) (Nat.le_refl _) ?_))
        intro v5 w5 hown5 hgrow5 _
        have hbel5 := (Below.refl w4.heap.size w4).grown hgrow5 (Nat.le_refl _) (by simp [Value.ownBlock])
        have HO5 : Hid (w5.ownsRow w4.heap.size 5 1 v5 4 (byteCells (C.num4 (C.of l)))) := by unfold Hid; simpa using hown5
        have HM5 := HM4.below hbel5
        have hs5 := hbel5.size
        have HM5' : Sl w5 1 m.length (.slice (some ⟨w1.heap.size, 0, none⟩) l.length l.length) (byteCells m) := HM5
        clear hown5 hgrow5 hr4 hv4 HM5
        go_wp2_with ((with_reducible (show wpList _ _ _ (⟨some 86, _, _, _, _, _⟩ :: _) _ _)); go_must (refine wpList_append_sl rfl _ _ 22 rfl w4.heap.size 5 (.int .u8 0) 1 1 Tryd.underlying22 infoU8 rfl (by decide) _ _ _ rfl HO5.out (.slice (some ⟨w1.heap.size, 0, none⟩) l.length l.length) m.length (byteCells m) rfl HM5' (byteCells_oneCell _) (by unfold maxLen; omega) (by omega) hs5 ?_))
        intro v6 w6 hown6 hgrow6 _
        rw [byteCells_append] at hown6
        have hbel6 := hbel5.grown hgrow6 hs5 (ownBlock_ge HO5.out)
        have hb6 := below_next hb4 hbel6
        have HM6 := HM4.below hbel6
        have ht6 := ht4.below hbel6
        have HO6 := Bs.of_owns hown6
        clear hown6 hgrow6 hbel6 hbel5 HM4 ht4 hb4 HM5' hs5 HO5
        go_wp2_with fail
        refine (open_any v6 _ w6 HO6 ht6 (by simp [C.num4]; omega)).mono ?_
        rintro e w7 ⟨v7, rfl, -, hbel⟩
        have hb7 := below_next hb6 hbel
        have HM7 := HM6.below hbel
        have ht7 := ht6.below hbel
        have HB7 := HB0.out.below hb7
        rw [C.isTag_other, show (C.of m == C.of l) = false from beq_eq_false_iff_ne.2 HNE.out]
        have hne2 : (((C.of m : Nat) : Int) != ((C.of l : Nat) : Int)) = true := by
          rw [bne_iff_ne]; intro e; exact HNE.out (by omega)
        clear hbel HM6 ht6 hb6 HO6
        go_wp2_with fail
        refine (of_any _ m w7 HM7 ht7).mono ?_
        rintro e w8 ⟨rfl, rfl⟩
        go_wp2_with fail
        refine (of_any _ l w7 HB7 ht7).mono ?_
        rintro e w8 ⟨rfl, rfl⟩
        go_wp2_with fail
        go_ret
        exact ⟨rfl, hb7⟩
end Go.Proofs.YtigahgkjidbhbaaDoor
