/- What lattice.each's iterator hands over: the bits that are 1, rising. -/
import Derived.Test.YtljpfocmnppjgaaDoorTz
import Derived.Test.YtljpfocmnppjgaaDoorRange
import Derived.RangeFuncNested
import Derived.RangeFuncBound
import Derived.RangeFuncCalls
import Derived.RangeFuncLeaves
import Derived.Shelf.Abstract
import Derived.Shelf.RegionOpen
import Derived.OwnWalkIn
import Derived.TacticsInMore
import Derived.LoopNIn
import Derived.LoopIn
namespace Go.Proofs.YtljpfocmnppjgaaDoor
open Go Go.RowKit Go.Shelf
attribute [local go_sem] Oper.semAt_some

/-- The iterator's own variable, a block of one cell. -/
def BoxU (W : World) (b y : Nat) : Prop := W.heap[b]? = some (.cells #[.int .u64 (y : Int)] 35 (0, 0))
def boxNat (W : World) (b : Nat) : Nat := match W.cell? ⟨b, 0, none⟩ with | some (.int _ y) => y.toNat | _ => 0
theorem BoxU.nat {W : World} {b y : Nat} (h : BoxU W b y) : boxNat W b = y := by
  unfold boxNat
  rw [cell_of_one h]
  simp
theorem BoxU.put {W : World} {b y : Nat} (h : BoxU W b y) (z : Nat) : BoxU (W.setCell ⟨b, 0, none⟩ (.int .u64 z)) b z := one_setCell h

def boxTurn (b : Nat) (A B : World) : Prop := ∃ y : Nat, B = A.setCell ⟨b, 0, none⟩ (.int .u64 (y : Int))
def boxKept (b : Nat) (A B : World) : Prop := B.heap[b]? = A.heap[b]? ∧ (DTab A → DTab B)

theorem clear_bits (y : Nat) (hy : y < 18446744073709551616) (h0 : y ≠ 0) : bits BinOp.and IntKind.u64 (y : Int) ((y : Int) - 1) = ((y &&& (y - 1) : Nat) : Int) := by
  have := u64_and_nat y (y - 1) hy (by omega)
  rwa [show ((y - 1 : Nat) : Int) = (y : Int) - 1 by omega] at this

theorem DTab.box {W : World} {b y : Nat} (h : DTab W) (hb : BoxU W b y) (v : Value) : DTab (W.setCell ⟨b, 0, none⟩ v) := by
  intro j hj
  have hj' := h j hj
  have hne : b ≠ 0 := by
    rintro rfl
    have h1 := h 1 (by decide)
    unfold BoxU at hb
    simp [World.cell?, hb] at h1
  rw [show (W.setCell ⟨b, 0, none⟩ v).cell? ⟨0, j, none⟩ = W.cell? ⟨0, j, none⟩ from World.cell?_of_block (Below.heap_setCell _ _ _ _ (by simpa using Ne.symm hne))]
  exact hj'

set_option maxHeartbeats 1000000 in
theorem each1_in (n x Bx : Nat) (hx : x < 18446744073709551616) :
    IterIn Fence.wide n Tryd.prog 53 #[.pointer (some ⟨Bx, 0, none⟩)] (fun k : Nat => #[.int .i64 (k : Int)]) (boxTurn Bx) (boxKept Bx)
      (fun pre k => ∃ rest, bitsOf x = pre ++ k :: rest) (fun xs => xs = bitsOf x) (fun pre => pre <+: bitsOf x) (fun W => BoxU W Bx x ∧ DTab W) := by
  intro l J Jx W ⟨hbox, htab⟩ hJ hY h0
  refine callsIn_of_wp Tryd.func53 rfl trivial ?_ rfl
  simp only [Tryd.ntmps53, List.size_toArray, List.length_cons, List.length_nil, Nat.reduceAdd, Nat.reduceSub, Array.replicate_succ, Array.replicate_zero, List.push_toArray, List.append_toArray, List.nil_append, List.cons_append]
  gi_wp2_with fail
  gi_loopw [3] (fun _ wr => ∃ (pre : List Nat) (y : Nat), bitsOf x = pre ++ bitsOf y ∧ y < 18446744073709551616 ∧ BoxU wr Bx y ∧ DTab wr ∧ J pre wr)
    (fun _ wr => (bitsOf (boxNat wr Bx)).length)
  case atStart => exact ⟨[], x, rfl, hx, hbox, htab, h0⟩
  case round =>
    obtain ⟨pre, y, he, hy, hb, ht, hj⟩ := hrel
    have hc := cell_of_one hb
    have hf := free_of_one hb
    by_cases hy0 : y = 0
    · have hz : ((y : Int) != 0) = false := by rw [bne_eq_false_iff_eq]; omega
      have hfin : (∃ xs, xs = bitsOf x ∧ J xs wr) := ⟨pre, by rw [he, hy0, bitsOf_zero, List.append_nil], hj⟩
      have HF := Lib.hid hfin
      clear hy0 he hfin
      gi_wp2_with fail
      go_end0
      exact ⟨⟨_, rfl⟩, .inl HF.out⟩
    · have hz : ((y : Int) != 0) = true := by rw [bne_iff_ne]; omega
      have hstep := bitsOf_step hy0 (by simpa using hy)
      obtain ⟨-, -, hk⟩ := low_form hy0 (by simpa using hy)
      have hclr := clear_bits y hy hy0
      have hy1 : IntKind.u64.wrap ((y : Int) - 1) = (y : Int) - 1 := by rw [IntKind.wrap_u64]; omega
      have hzlt : y &&& (y - 1) < 18446744073709551616 := clear_lt (by simpa using hy)
      have HT := Lib.hid (tz_any y hy0 hy)
      generalize hkk : Lib.ctz 64 y = k at *
      generalize hzz : y &&& (y - 1) = z at *
      have hb1 := hb.put z
      have hj1 := hJ pre wr (wr.setCell ⟨Bx, 0, none⟩ (.int .u64 (z : Int))) hj ⟨z, rfl⟩
      have ht1 := ht.box hb (.int .u64 (z : Int))
      have hmeas : Hid ((bitsOf z).length < (bitsOf (boxNat wr Bx)).length) := by
        unfold Hid; rw [hb.nat, hstep]; simp
      have he1 : Hid (bitsOf x = (pre ++ [k]) ++ bitsOf z) := by unfold Hid; rw [he, hstep]; simp
      have hpre : Hid (pre ++ [k] <+: bitsOf x) := ⟨bitsOf z, he1.out.symm⟩
      obtain ⟨fn, tmps, assign, body, hyy, hR⟩ := hY pre k _ hj1 ⟨bitsOf z, by rw [he, hstep]⟩
      clear hkk hzz hstep he hY hJ h0 hj hbox htab
      gi_wp2_with fail
      refine ⟨trivial, fun h => (by cases h), ?_⟩
      refine (callsIn_wide.2 (HT.out _ ht)).mono ?_
      rintro e w' ⟨rfl, rfl⟩
      gi_wp2_with fail
      refine ⟨fun h => (by cases h), ?_⟩
      refine hR.mono ?_
      rintro e W' (⟨rfl, hj2, hk2⟩ | ⟨rfl, hjx⟩)
      · have hb2 : BoxU W' Bx z := hk2.1.trans hb1
        have ht2 := hk2.2 ht1
        have hm2 : Hid ((bitsOf (boxNat W' Bx)).length < (bitsOf (boxNat wr Bx)).length) := by unfold Hid; rw [hb2.nat]; exact hmeas.out
        clear hk2 ht1 hb1 hj1 hyy hR hclr hy1 hc hf ht hb
        gi_wp2_with fail
        exact ⟨⟨pre ++ [k], z, he1.out, hzlt, hb2, ht2, hj2⟩, hm2.out⟩
      · have hfin : Hid (∃ pre, pre <+: bitsOf x ∧ Jx pre W') := ⟨_, hpre.out, hjx⟩
        clear hjx ht1 hb1 hj1 hyy hR hclr hy1 hc hf ht hb
        gi_wp2_with fail
        refine bodyPost_ret (results_none rfl _ _ _) rfl ?_
        exact ⟨⟨_, rfl⟩, .inr hfin.out⟩

set_option maxHeartbeats 400000 in
theorem each_any (x : Nat) (w : World) :
    Calls Tryd.prog 43 #[.int .u64 x] w fun e w' => e = .returned (.func (.func 53) #[] #[.pointer (some ⟨w.heap.size, 0, none⟩)]) ∧ w' = w.alloc (.cells #[.int .u64 x] 35) := by
  go_enter Tryd.func43, Tryd.ntmps43
  go_wp2_with fail
  go_ret
  exact ⟨rfl, rfl⟩
end Go.Proofs.YtljpfocmnppjgaaDoor
