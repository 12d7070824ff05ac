/- What slices.Backward's iterator hands over. -/
import Derived.Test.YtljpfocmnppjgaaDoorOp3
import Derived.Test.YtljpfocmnppjgaaDoorList
import Derived.Test.YtljpfocmnppjgaaDoorMixIn
namespace Go.Proofs.YtljpfocmnppjgaaDoor
open Go Go.RowKit Go.Shelf
attribute [local go_sem] Oper.semAt_some

/-- Where the iterator finds the operations: in block bL, as they lay in the world w0. -/
def BackAt (bL : Nat) (w0 : World) (vl : Value) (W : World) : Prop := W.heap[bL]? = some (.cells #[vl] 28 (0, 0)) ∧ Below w0.heap.size w0 W
/-- What a round keeps of it. -/
def BackKept (bL B : Nat) (A W : World) : Prop := W.heap[bL]? = A.heap[bL]? ∧ ∀ k, k < B → W.heap[k]? = A.heap[k]?

set_option maxRecDepth 4000 in
set_option maxHeartbeats 2000000 in
theorem backward1_in (n bL : Nat) (w0 : World) (ao : Option Addr) (N cap : Nat) (l : List Opr) (hl : Os w0 (.slice ao N cap) l) (hN : l.length = N) (hN1 : N ≤ 1000000) :
    IterIn Fence.wide n Tryd.prog 42 #[.pointer (some ⟨bL, 0, none⟩)] (fun x : Nat × Rop => #[.int .i64 (x.1 : Int), opv x.2]) (fun A B => A = B) (fun A W => BackAt bL w0 (.slice ao N cap) A → BackAt bL w0 (.slice ao N cap) W)
      (fun pre x => x.1 + 1 + pre.length = N ∧ ∃ o a q c, l[x.1]? = some o ∧ x.2 = o.put (.slice a q c)) (fun xs => xs.length = N) (fun _ => True) (BackAt bL w0 (.slice ao N cap)) := by
  intro lp J Jx W hst hJ hY h0
  have HL := Lib.hid hl
  clear hl
  refine callsIn_of_wp Tryd.func42 rfl trivial ?_ rfl
  simp only [Tryd.ntmps42, List.size_toArray, List.length_cons, List.length_nil, Nat.reduceAdd, Nat.reduceSub, Array.replicate_succ, Array.replicate_zero, List.push_toArray, List.append_toArray, List.nil_append, List.cons_append]
  have f0 : IntKind.i64.wrap ((N : Int) - 1) = (N : Int) - 1 := by rw [IntKind.wrap_i64] <;> omega
  have hc := cell_of_one hst.1
  gi_wp2_with fail
  gi_loopw [3] (fun i wr => ∃ (m : Nat) (pre : List (Nat × Rop)), i = .int .i64 ((m : Int) - 1) ∧ m + pre.length = N ∧ Hid (BackAt bL w0 (.slice ao N cap) wr) ∧ J pre wr)
    (fun i _ => (intOf i + 1).toNat)
  case atStart => exact ⟨N, [], rfl, rfl, hst, h0⟩
  case round =>
    clear hc f0 hst h0
    obtain ⟨m, pre, rfl, hm, hst, hj⟩ := hrel
    by_cases hm0 : 0 < m
    · obtain ⟨j, rfl⟩ : ∃ j, m = j + 1 := ⟨m - 1, by omega⟩
      have hjn : j < N := by omega
      rw [show ((j + 1 : Nat) : Int) - 1 = (j : Int) by omega]
      have hj0 : (0 : Int) ≤ (j : Int) := by omega
      have hjI : (j : Int) < (N : Int) := by omega
      have i7 : IntKind.i64.wrap ((j : Int) - 1) = (j : Int) - 1 := by rw [IntKind.wrap_i64] <;> omega
      obtain ⟨b, off, u, rfl, hks, hat⟩ := HL.out.at (j := j) (by rw [hN]; exact hjn)
      obtain ⟨ua, uc, rfl, -⟩ := hks.shape
      generalize (l[j]'(by rw [hN]; exact hjn)).keep.length = uq at *
      clear hks
      have hx : l[j]? = some (l[j]'(by rw [hN]; exact hjn)) := List.getElem?_eq_getElem _
      obtain ⟨o, ho⟩ : ∃ o, l[j]'(by rw [hN]; exact hjn) = o := ⟨_, rfl⟩
      rw [ho] at hat hx
      obtain ⟨p0, p1, p2, p3, p4, p5, p6, p7, p8, p9, p10⟩ := hat wr hst.out.2
      have hc := cell_of_one hst.out.1
      obtain ⟨fn, tmps, assign, body, hyy, hR⟩ := hY pre (j, o.put (.slice ua uq uc)) wr hj ⟨by simp only []; omega, o, ua, uq, uc, hx, rfl⟩
      clear ho hat hY hj hx
      obtain ⟨o0, o1, o2, o3, o4, o5, o6, o7, o8, o9, k⟩ := o
      simp only [Op11.put] at p0 p1 p2 p3 p4 p5 p6 p7 p8 p9 p10 hyy hR
      have HR := Lib.hid hR
      clear hR
      gi_wp2_with fail
      refine ⟨fun h => (by cases h), ?_⟩
      refine HR.out.mono ?_
      rintro e W' (⟨rfl, hj2, hk2⟩ | ⟨rfl, hjx⟩)
      · have hst2 := Lib.hid (hk2 hst.out)
        clear hk2 hst p0 p1 p2 p3 p4 p5 p6 p7 p8 p9 p10 hc hyy HR
        gi_wp2_with fail
        refine ⟨⟨j, _, rfl, ?_, hst2, hj2⟩, ?_⟩
        · rw [List.length_append, List.length_singleton]; omega
        · simp [intOf]
      · have hfin : Hid (∃ pre, True ∧ Jx pre W') := ⟨_, trivial, hjx⟩
        clear hjx hst p0 p1 p2 p3 p4 p5 p6 p7 p8 p9 p10 hc hyy HR
        gi_wp2_with fail
        refine bodyPost_ret (results_none rfl _ _ _) rfl ?_
        exact ⟨⟨_, rfl⟩, .inr hfin.out⟩
    · obtain rfl : m = 0 := by omega
      rw [show ((0 : Nat) : Int) - 1 = -1 from rfl]
      have hfin : Hid (∃ xs : List (Nat × Rop), xs.length = N ∧ J xs wr) := ⟨pre, by omega, hj⟩
      clear hj hY hJ
      gi_wp2_with fail
      go_end0
      exact ⟨⟨_, rfl⟩, .inl hfin.out⟩

set_option maxHeartbeats 400000 in
theorem backward_any (ao : Option Addr) (N cap : Nat) (w : World) :
    Calls Tryd.prog 27 #[.slice ao N cap] w fun e w' => e = .returned (.func (.func 42) #[] #[.pointer (some ⟨w.heap.size, 0, none⟩)]) ∧ w' = w.alloc (.cells #[.slice ao N cap] 28) := by
  go_enter Tryd.func27, Tryd.ntmps27
  go_wp2_with fail
  go_ret
  exact ⟨rfl, rfl⟩
end Go.Proofs.YtljpfocmnppjgaaDoor
