/- What lattice.Get and the reference's Get return. -/
import Derived.Test.YtnfhhhcbgipmcaaDoorLatBytes
import Derived.Test.YtnfhhhcbgipmcaaDoorRefTaker
namespace Go.Proofs.YtnfhhhcbgipmcaaDoor
open Go Go.RowKit

namespace L
/-- The rows that bytes tell, what is left, and what went wrong. -/
def gotN (l : List UInt8) : List Nat × List UInt8 × Int := T.nums (T.tv 1 l 0) (T.tl 1 l 0) (T.te 1 l 0)
noncomputable def getE (l : List UInt8) : Int := if (gotN l).2.2 = 0 then if check (gotN l).1 = true ∧ (gotN l).2.1 = [] then 0 else 11 else (gotN l).2.2
noncomputable def get (l : List UInt8) : List Nat := if getE l = 0 then (gotN l).1 else []
theorem gotN_length (l : List UInt8) : (gotN l).1.length = T.tv 1 l 0 := T.nums_length _ _ _
theorem getE_bad {l : List UInt8} (h : (gotN l).2.2 ≠ 0) : getE l = (gotN l).2.2 ∧ get l = [] := by
  have e : getE l = (gotN l).2.2 := by unfold getE; rw [if_neg h]
  exact ⟨e, by unfold get; rw [e, if_neg h]⟩
theorem getE_form {l : List UInt8} (h : (gotN l).2.2 = 0) (h2 : ¬ (check (gotN l).1 = true ∧ (gotN l).2.1 = [])) : getE l = 11 ∧ get l = [] := by
  have e : getE l = 11 := by unfold getE; rw [if_pos h, if_neg h2]
  exact ⟨e, by unfold get; rw [e]; rfl⟩
theorem getE_good {l : List UInt8} (h : (gotN l).2.2 = 0) (h2 : check (gotN l).1 = true) (h3 : (gotN l).2.1 = []) : getE l = 0 ∧ get l = (gotN l).1 := by
  have e : getE l = 0 := by unfold getE; rw [if_pos h, if_pos ⟨h2, h3⟩]
  exact ⟨e, by unfold get; rw [e]; rfl⟩
end L

/-- A number more at the end of a row of the call's own. -/
theorem u64_more {us : List Nat} {d : Nat} : u64Cells us ++ [.int .u64 (d : Int)] = u64Cells (us ++ [d]) := by simp [u64Cells]

set_option maxRecDepth 4000 in
set_option maxHeartbeats 1000000 in
theorem get_any (v : Value) (l : List UInt8) (w : World) (h : Bs w v l) (hl : l.length ≤ 100000) (ht : DTab w) :
    Calls Tryd.prog 31 #[v] w fun e w' => ∃ v', e = .returned (.tuple #[v', .int .i64 (L.getE l)]) ∧ Us w' v' (L.get l) ∧ Below w.heap.size w w' := by
  obtain ⟨i0, hi, hz0, hz1, hz2⟩ := info_parts infoU64
  have HT := Lib.hid (take_any v l w h hl)
  have HD := Lib.hid ht
  clear h ht
  go_enter Tryd.func31, Tryd.ntmps31
  go_wp2_with fail
  refine HT.out.mono ?_
  rintro e w1 ⟨B, v1, w0, rfl, ht⟩
  clear HT
  have HN := Lib.hid (tnum_any B 1 v1 l 0 w0 w1 (by decide) (by decide) ht.tk ht.bs ht.next ht.at_)
  rw [show ((1 : Nat) : Int) = 1 from rfl] at HN
  have HF := Lib.hid ht.first
  have HX := Lib.hid ht.next
  have HB := Lib.hid ht.at_
  clear ht
  go_wp2_with fail
  refine HN.out.mono ?_
  rintro e w2 ⟨v2, rfl, hk⟩
  have hb2 : Below w0.heap.size w0 w2 := HX.out.trans (hk.but.below HB.out)
  have HK := Lib.hid hk.tk
  have HBS := Lib.hid hk.bs
  have h256 := T.tv_one l 0
  have HG := Lib.hid (show L.gotN l = T.nums (T.tv 1 l 0) (T.tl 1 l 0) (T.te 1 l 0) from rfl)
  clear hk HN HX
  obtain ⟨N, hN⟩ : ∃ N, T.tv 1 l 0 = N := ⟨_, rfl⟩
  obtain ⟨l1, hl1⟩ : ∃ x, T.tl 1 l 0 = x := ⟨_, rfl⟩
  obtain ⟨e1, he1⟩ : ∃ x, T.te 1 l 0 = x := ⟨_, rfl⟩
  rw [hN] at h256 ⊢
  rw [hN, hl1, he1] at HG
  rw [he1] at HK
  rw [hl1] at HBS
  clear hN hl1 he1
  go_wp2_with fail
  go_loopw [5, 11] (fun t i wr => ∃ (k : Nat) (vk : Value), k ≤ N ∧ i = .int .u64 k ∧ Hid (wr.ownsRow w0.heap.size 25 1 t k (u64Cells (T.nums k l1 e1).1)) ∧ Hid (Tk wr B vk (T.nums k l1 e1).2.2) ∧ Hid (Bs w0 vk (T.nums k l1 e1).2.1) ∧ Below w0.heap.size w0 wr) (fun _ i _ => N - (intOf i).toNat)
  case atStart => exact ⟨0, _, by omega, rfl, World.ownsRow_nil _ _ _ _, HK, HBS, hb2⟩
  case round =>
    clear hb2 HK HBS
    obtain ⟨k, vk, hk, rfl, hr, htk, hbs, hbr⟩ := hrel
    by_cases hkN : k < N
    · have HN := Lib.hid (tnum_any B 8 vk _ _ w0 wr (by decide) (by decide) htk.out hbs.out hbr HB.out)
      rw [show ((8 : Nat) : Int) = 8 from rfl] at HN
      have hs : Hid (T.nums (k + 1) l1 e1 = ((T.nums k l1 e1).1 ++ [T.tv 8 (T.nums k l1 e1).2.1 (T.nums k l1 e1).2.2], T.tl 8 (T.nums k l1 e1).2.1 (T.nums k l1 e1).2.2, T.te 8 (T.nums k l1 e1).2.1 (T.nums k l1 e1).2.2)) := rfl
      clear hbs
      generalize (T.nums k l1 e1).2.1 = lk at *
      generalize (T.nums k l1 e1).2.2 = ek at *
      generalize (T.nums k l1 e1).1 = xs at *
      go_wp2_with fail
      refine HN.out.mono ?_
      rintro e w3 ⟨v3, rfl, ht⟩
      have hb3 : Below w0.heap.size w0 w3 := hbr.trans (ht.but.below HB.out)
      have HO := Lib.hid (ownsRow.but htk.out ht.but hr.out (by decide))
      have hne := Lib.hid (own_ne htk.out hr.out (by decide))
      have HK := Lib.hid ht.tk
      have HBS := Lib.hid ht.bs
      clear ht HN hr htk hbr
      have hdl := T.tv_lt (n := 8) (by decide) lk ek
      obtain ⟨d, hd⟩ : ∃ d, T.tv 8 lk ek = d := ⟨_, rfl⟩
      rw [hd] at hs hdl ⊢
      clear hd
      go_wp2_with (at_builtin; go_must (refine wpList_append_own (w := w3.alloc (.cells #[.int .u64 (d : Int)] 25)) rfl _ _ 22 rfl w0.heap.size 25 i0 (.int .u64 0) 1 8 Tryd.underlying22 hi hz0 hz1 hz2 rfl (by decide) _ _ _ rfl (HO.out.alloc _) ⟨w3.heap.size, 0, none⟩ 1 1 [.int .u64 (d : Int)] rfl rfl (cell_one_new _ _ _) (by simp [Value.oneCell']) (by unfold maxLen; omega) (by omega) (by have := hb3.size; simp; omega) ?_))
      intro v4 w4 hown4 hgrow _
      have hrel : Hid (w4.ownsRow w0.heap.size 25 1 v4 (k + 1) (u64Cells (T.nums (k + 1) l1 e1).1)) := by
        unfold Hid; rw [hs.out, ← u64_more]; exact hown4
      have hk4 : Hid (Tk w4 B v3 (T.nums (k + 1) l1 e1).2.2) := by
        unfold Hid; rw [hs.out]
        exact Tk.grown (Tk.below HK.out ((Below.refl _ w3).alloc (Nat.le_refl _) _) HK.out.lt) hgrow hne.out
      have hs4 : Hid (Bs w0 v3 (T.nums (k + 1) l1 e1).2.1) := by unfold Hid; rw [hs.out]; exact HBS.out
      have hb4 : Below w0.heap.size w0 w4 := (hb3.alloc hb3.size _).grown hgrow (by have := hb3.size; simp; omega) (ownBlock_ge HO.out)
      clear hown4 hgrow HO hne HK HBS hs hb3
      go_wp2_with fail
      go_roundw
      case rel => exact ⟨k + 1, v3, by omega, by go_num, hrel, hk4, hs4, hb4⟩
      case measure => simp [intOf]; omega
    · obtain rfl : k = N := by omega
      rw [← HG.out] at hr htk hbs
      have HE := Lib.hid (err_any B vk _ wr htk.out)
      have hbw : Below w.heap.size w wr := below_next HF.out hbr
      have hus := Us.of_owns hr.out
      have hlt : U64s (L.gotN l).1 := T.nums_lt _ _ _
      clear hr hkN hk
      by_cases hz : (L.gotN l).2.2 = 0
      · rw [hz] at HE htk
        have HDN := Lib.hid (fun W (hW : Below wr.heap.size wr W) => done_any B vk _ 0 w0 W (htk.out.below hW htk.out.lt) hbs.out)
        have HC := Lib.hid (check_any _ _ wr hus hlt (HD.out.below hbw))
        clear htk hbs
        cases hck : L.check (L.gotN l).1 with
        | false =>
          rw [hck] at HC
          have hf := Lib.hid (L.getE_form hz (by rw [hck]; simp))
          clear hz hck HG
          go_wp2_with fail
          refine HE.out.mono ?_
          rintro e w' ⟨rfl, rfl⟩
          go_wp2_with fail
          refine HC.out.mono ?_
          rintro e w5 ⟨rfl, hb5⟩
          go_wp2_with fail
          go_ret2
          exact ⟨_, by rw [hf.out.1]; rfl, by rw [hf.out.2]; exact Us.nil _, below_next hbw hb5⟩
        | true =>
          rw [hck] at HC
          by_cases hd : (L.gotN l).2.1 = []
          · have hf := Lib.hid (L.getE_good hz hck hd)
            rw [hd, show T.done [] 0 = 0 from rfl] at HDN
            clear hz hck hd HG
            go_wp2_with fail
            refine HE.out.mono ?_
            rintro e w' ⟨rfl, rfl⟩
            go_wp2_with fail
            refine HC.out.mono ?_
            rintro e w5 ⟨rfl, hb5⟩
            go_wp2_with fail
            refine (HDN.out _ hb5).mono ?_
            rintro e w' ⟨rfl, rfl⟩
            go_wp2_with fail
            go_ret2
            exact ⟨_, by rw [hf.out.1]; rfl, by rw [hf.out.2]; exact hus.below hb5, below_next hbw hb5⟩
          · have hf := Lib.hid (L.getE_form hz (fun h => hd h.2))
            rw [show T.done (L.gotN l).2.1 0 = 11 by simp [T.done, hd]] at HDN
            clear hz hck hd HG
            go_wp2_with fail
            refine HE.out.mono ?_
            rintro e w' ⟨rfl, rfl⟩
            go_wp2_with fail
            refine HC.out.mono ?_
            rintro e w5 ⟨rfl, hb5⟩
            go_wp2_with fail
            refine (HDN.out _ hb5).mono ?_
            rintro e w' ⟨rfl, rfl⟩
            go_wp2_with fail
            go_ret2
            exact ⟨_, by rw [hf.out.1]; rfl, by rw [hf.out.2]; exact Us.nil _, below_next hbw hb5⟩
      · have hf := Lib.hid (L.getE_bad hz)
        obtain ⟨ee, hee⟩ : ∃ ee, (L.gotN l).2.2 = ee := ⟨_, rfl⟩
        rw [hee] at HE hf hz
        have de : (ee != 0) = true := by simp [hz]
        clear hee hz HG htk hbs hus hlt
        go_wp2_with fail
        refine HE.out.mono ?_
        rintro e w' ⟨rfl, rfl⟩
        go_wp2_with fail
        go_ret2
        exact ⟨_, by rw [hf.out.1]; rfl, by rw [hf.out.2]; exact Us.nil _, hbw⟩
end Go.Proofs.YtnfhhhcbgipmcaaDoor
