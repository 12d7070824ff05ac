/- CrcXors returns true. -/
import Derived.Test.YtigahgkjidbhbaaDoorCrcAwake
import Derived.Test.YtigahgkjidbhbaaDoorMix
import Derived.StillTailTactics
namespace Go.Proofs.YtigahgkjidbhbaaDoor
open Go Go.RowKit

/-- Three rows, xored byte by byte, as far as k. -/
def xor3 (a b c : List UInt8) (k : Nat) : List UInt8 := ((a.take k).zipWith (· ^^^ ·) (b.take k)).zipWith (· ^^^ ·) (c.take k)
theorem xor3_length {a b c : List UInt8} {k : Nat} (ha : k ≤ a.length) (hb : k ≤ b.length) (hc : k ≤ c.length) : (xor3 a b c k).length = k := by
  simp [xor3]; omega
theorem xor3_put {a b c : List UInt8} {n k : Nat} (ha : k < a.length) (hb : k < b.length) (hc : k < c.length) (hk : k < n) :
    (byteCells (xor3 a b c k ++ List.replicate (n - k) 0)).set k (.int .u8 ((a[k] ^^^ b[k] ^^^ c[k]).toNat : Int)) = byteCells (xor3 a b c (k + 1) ++ List.replicate (n - (k + 1)) 0) := by
  have e : xor3 a b c (k + 1) = xor3 a b c k ++ [a[k] ^^^ b[k] ^^^ c[k]] := by
    unfold xor3
    rw [List.take_succ_eq_append_getElem ha, List.take_succ_eq_append_getElem hb, List.take_succ_eq_append_getElem hc]
    rw [List.zipWith_append (by simp; omega), List.zipWith_append (by simp; omega)]
    rfl
  unfold byteCells
  rw [← List.map_set, e, List.set_append_right _ _ (by rw [xor3_length (by omega) (by omega) (by omega)]; omega), xor3_length (by omega) (by omega) (by omega), Nat.sub_self, show n - k = (n - (k + 1)) + 1 by omega, List.replicate_succ, List.set_cons_zero]
  simp

theorem xor_u8 (a b : UInt8) : bits BinOp.xor IntKind.u8 (a.toNat : Int) (b.toNat : Int) = ((a ^^^ b).toNat : Int) := by
  rw [u8_xor_nat _ _ a.toNat_lt b.toNat_lt, UInt8.toNat_xor]

set_option maxHeartbeats 1000000 in
theorem crcXors_any (va vb vc : Value) (a b c : List UInt8) (w : World) (ha : Bs w va a) (hb : Bs w vb b) (hc : Bs w vc c) (ht : Tab w) :
    Calls Tryd.prog 6 #[va, vb, vc] w fun e w' => e = .returned (.bool true) ∧ Below w.heap.size w w' := by
  obtain ⟨-, ao, capa, rfl, -, -, -, -⟩ := id ha
  obtain ⟨-, bo, capb, rfl, -, -, -, -⟩ := id hb
  obtain ⟨-, co, capc, rfl, -, -, -, -⟩ := id hc
  go_enter Tryd.func6, Tryd.ntmps6
  go_wp2_with fail
  refine (awake_any w ht).mono ?_
  rintro e w1 ⟨rfl, hb1⟩
  have ha1 := ha.below hb1
  have hbb1 := hb.below hb1
  have hc1 := hc.below hb1
  have ht1 := ht.below hb1
  clear ha hb hc ht
  obtain ⟨m, hm⟩ : ∃ m, m = min a.length b.length := ⟨_, rfl⟩
  obtain ⟨n, hn⟩ : ∃ n, n = min m c.length := ⟨_, rfl⟩
  have h1 : (if b.length < a.length then (b.length : Int) else (a.length : Int)) = (m : Int) := by rw [hm]; split <;> omega
  have h2 : (if c.length < m then (c.length : Int) else (m : Int)) = (n : Int) := by rw [hn]; split <;> omega
  have hna : n ≤ a.length := by omega
  have hnb : n ≤ b.length := by omega
  have hnc : n ≤ c.length := by omega
  clear hm hn
  by_cases hl : 1000 < n
  · have hd : decide ((1000 : Int) < (n : Int)) = true := by simp; omega
    clear hl
    go_wp2_with fail
    go_ret
    exact ⟨rfl, hb1⟩
  · have hd : decide ((1000 : Int) < (n : Int)) = false := by simp; omega
    have hle : n ≤ 1000 := by omega
    clear hl
    go_wp2_with (at_make; go_must (refine wpList_make_sl rfl _ _ 22 rfl w1.heap.size 5 (.int .u8 0) 1 1 Tryd.underlying22 infoU8 _ _ n rfl rfl (by omega) (by unfold maxLen; omega) (Nat.le_refl _) ?_))
    intro w2 hown hgrow
    have hb2 := (Below.refl w1.heap.size w1).grown hgrow (Nat.le_refl _) (by simp)
    have HO : Hid (w2.ownsRow w1.heap.size 5 1 (.slice (some ⟨w1.heap.size, 0, none⟩) n n) n (byteCells (xor3 a b c 0 ++ List.replicate (n - 0) 0))) := by
      rw [toList_madeCells_one] at hown
      rw [show byteCells (xor3 a b c 0 ++ List.replicate (n - 0) 0) = List.replicate n (.int .u8 0) by simp [byteCells, xor3]]
      exact hown
    clear hown hgrow
    go_wp2_with fail
    clear h1 h2 hd
    go_loopw [10] (fun i wr => ∃ k : Nat, k ≤ n ∧ i = .int .i64 k ∧ Hid (wr.ownsRow w1.heap.size 5 1 (.slice (some ⟨w1.heap.size, 0, none⟩) n n) n (byteCells (xor3 a b c k ++ List.replicate (n - k) 0))) ∧ Below w1.heap.size w1 wr) (fun i _ => n - (intOf i).toNat)
    case atStart => exact ⟨0, by omega, rfl, HO, hb2⟩
    case round =>
      obtain ⟨k, hk, rfl, hr, hbr⟩ := hrel
      by_cases hlt : k < n
      · have hka : k < a.length := by omega
        have hkb : k < b.length := by omega
        have hkc : k < c.length := by omega
        obtain ⟨ba, oa, rfl, hca⟩ := (ha1.below hbr).at hka
        obtain ⟨bb, ob, rfl, hcb⟩ := (hbb1.below hbr).at hkb
        obtain ⟨bc, oc, rfl, hcc⟩ := (hc1.below hbr).at hkc
        have ca := hca k hka
        have cb := hcb k hkb
        have cc := hcc k hkc
        have hcd : wr.cell? ⟨w1.heap.size, k, none⟩ = some (.int .u8 0) := by
          rw [hr.out.cellAt k (by omega), byteCells, List.getElem?_map, List.getElem?_append_right (by rw [xor3_length (by omega) (by omega) (by omega)]; omega), List.getElem?_replicate, xor3_length (by omega) (by omega) (by omega), if_pos (by omega)]
          rfl
        have hfd := hr.out.frozenAt k
        have hia : (k : Int) < (a.length : Int) := by omega
        have hib : (k : Int) < (b.length : Int) := by omega
        have hic : (k : Int) < (c.length : Int) := by omega
        have hin : (k : Int) < (n : Int) := by omega
        have hx := xor_u8 a[k] b[k]
        have hy := xor_u8 (a[k] ^^^ b[k]) c[k]
        have hput : Hid ((byteCells (xor3 a b c k ++ List.replicate (n - k) 0)).set k (.int .u8 ((a[k] ^^^ b[k] ^^^ c[k]).toNat : Int)) = byteCells (xor3 a b c (k + 1) ++ List.replicate (n - (k + 1)) 0)) := xor3_put hka hkb hkc hlt
        clear hca hcb hcc
        obtain ⟨x, hxa⟩ : ∃ x, a[k] = x := ⟨_, rfl⟩
        obtain ⟨y, hyb⟩ : ∃ y, b[k] = y := ⟨_, rfl⟩
        obtain ⟨z, hzc⟩ : ∃ z, c[k] = z := ⟨_, rfl⟩
        simp only [hxa, hyb, hzc] at ca cb cc hx hy hput
        clear hxa hyb hzc
        go_wp2_with fail
        go_still_tail 17, (by kernel_rfl)
        change wpList _ _ _ _ _ wr.drew
        have hbr' : Below w1.heap.size w1 wr.drew := hbr.drew
        have hr' : Hid (wr.drew.ownsRow w1.heap.size 5 1 (.slice (some ⟨w1.heap.size, 0, none⟩) n n) n (byteCells (xor3 a b c k ++ List.replicate (n - k) 0))) := hr
        clear hbr hr
        change wr.drew.cell? _ = _ at hcd
        change wr.drew.frozen? _ = _ at hfd
        generalize wr.drew = w3 at *
        go_wp2_with fail
        have hfin : bits BinOp.xor IntKind.u8 ((x.toNat ^^^ y.toNat : Nat) : Int) (z.toNat : Int) = ((x ^^^ y ^^^ z).toNat : Int) := by
          rw [← UInt8.toNat_xor]; exact xor_u8 _ _
        rw [hfin]
        clear hfin hx hy ca cb cc
        go_roundw
        case rel =>
          refine ⟨k + 1, by omega, by go_num, ?_, hbr'.setCell (Nat.le_refl _) _⟩
          have := hr'.out.stored k (.int .u8 ((x ^^^ y ^^^ z).toNat : Int))
          rw [hput.out] at this
          exact this.1
        case measure => simp [intOf]; omega
      · obtain rfl : k = n := by omega
        have hown := hr.out
        rw [Nat.sub_self, List.replicate_zero, List.append_nil] at hown
        have HD := Bs.of_owns hown
        have HA := ha1.below hbr
        have HB := hbb1.below hbr
        have HC := hc1.below hbr
        have HT := ht1.below hbr
        have hfin := below_next hb1 hbr
        clear hown hr ha1 hbb1 hc1 ht1 hbr hb2 HO hb1 hlt hk
        go_wp2_with fail
        have hS0 := (Below.refl wr.heap.size wr).drew
        have hd4 := HD.below hS0
        have ha4 := HA.below hS0
        have hb4 := HB.below hS0
        have hc4 := HC.below hS0
        have ht4 := HT.below hS0
        have hf4 := below_next hfin hS0
        clear HD HA HB HC HT hfin hS0
        refine wp_region_mix ext_grow [(0, false), (1, false), (2, false), (3, false), (4, false), (5, false), (6, false), (7, false), (8, false), (9, false), (10, false), (11, false), (12, false), (13, false), (14, false), (15, false), (16, false), (17, false)] (by kernel_rfl) (by kernel_rfl) ?_
        generalize wr.drew = w4 at *
        obtain ⟨v1, hv1, hr1⟩ := run_btake (P := Tryd.prog) Tryd.underlying22 infoU8 ha4 .i64 k hna
        obtain ⟨v2, hv2, hr2⟩ := run_btake (P := Tryd.prog) Tryd.underlying22 infoU8 hb4 .i64 k hnb
        obtain ⟨v3, hv3, hr3⟩ := run_btake (P := Tryd.prog) Tryd.underlying22 infoU8 hc4 .i64 k hnc
        have e1 : bits BinOp.xor IntKind.u32 (C.of (a.take k) : Nat) (C.of (b.take k) : Nat) = ((C.of (a.take k) ^^^ C.of (b.take k) : Nat) : Int) := u32_xor_nat _ _ (C.of_lt _) (C.of_lt _)
        have e2 : bits BinOp.xor IntKind.u32 ((C.of (a.take k) ^^^ C.of (b.take k) : Nat) : Int) (C.of (c.take k) : Nat) = (C.of (xor3 a b c k) : Nat) := by
          rw [u32_xor_nat _ _ (C.xor_lt (C.of_lt _) (C.of_lt _)) (C.of_lt _), xor3, C.of_xor3 _ _ _ (by simp; omega) (by simp; omega)]
        clear ha4 hb4 hc4
        repeat (refine mix_soft rfl (fun K hK => ?_); go_simp; (first | (refine hK _ ?_; clear hK K) | (apply Exists.intro; refine ⟨fun x => ?_, hK _ ?_⟩; (first | (go_at_call 11; exact (of_any v1 (a.take k) _ (hv1.below x.2) (ht4.below x.2)).mono fun e w' ⟨h1, h2⟩ => ⟨h1, ext_of_eq h2⟩) | (go_at_call 11; exact (of_any v2 (b.take k) _ (hv2.below x.2) (ht4.below x.2)).mono fun e w' ⟨h1, h2⟩ => ⟨h1, ext_of_eq h2⟩) | (go_at_call 11; exact (of_any v3 (c.take k) _ (hv3.below x.2) (ht4.below x.2)).mono fun e w' ⟨h1, h2⟩ => ⟨h1, ext_of_eq h2⟩) | (go_at_call 11; exact (of_any _ (xor3 a b c k) _ (hd4.below x.2) (ht4.below x.2)).mono fun e w' ⟨h1, h2⟩ => ⟨h1, ext_of_eq h2⟩)); clear hK K)))
        refine mix_done fun w6 hb6 => ?_
        have hfin := below_next hf4 hb6
        go_wp2_with fail
        go_ret
        exact ⟨rfl, hfin⟩
end Go.Proofs.YtigahgkjidbhbaaDoor
