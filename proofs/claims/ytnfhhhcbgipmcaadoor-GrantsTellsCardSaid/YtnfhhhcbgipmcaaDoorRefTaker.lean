/- What the reference's taker returns: its 'some' and Num. -/
import Derived.Test.YtnfhhhcbgipmcaaDoorTaker
namespace Go.Proofs.YtnfhhhcbgipmcaaDoor
open Go Go.RowKit

theorem str_dropN (l : List UInt8) (k : Nat) : (str l).extract k l.length = str (l.drop k) := by
  unfold str
  apply ByteArray.ext
  simp [List.take_of_length_le]
theorem str_takeN (l : List UInt8) (k : Nat) : (str l).extract 0 k = str (l.take k) := by
  unfold str
  apply ByteArray.ext
  simp

/-- Block B is the reference's taker of the bytes l and the error e. -/
def Rk (w : World) (B : Nat) (l : List UInt8) (e : Int) : Prop := w.heap[B]? = some (.cells #[.string (str l), .int .i64 e] 78 (0, 0))
theorem Rk.lt {w : World} {B : Nat} {l : List UInt8} {e : Int} (h : Rk w B l e) : B < w.heap.size := (Array.getElem?_eq_some_iff.1 h).1
theorem Rk.cell0 {w : World} {B : Nat} {l : List UInt8} {e : Int} (h : Rk w B l e) : w.cell? ⟨B, 0, none⟩ = some (.string (str l)) := cell_of_row w B 0 _ _ (0, 0) h
theorem Rk.cell1 {w : World} {B : Nat} {l : List UInt8} {e : Int} (h : Rk w B l e) : w.cell? ⟨B, 1, none⟩ = some (.int .i64 e) := cell_of_row w B 1 _ _ (0, 0) h
theorem Rk.frozen {w : World} {B : Nat} {l : List UInt8} {e : Int} (h : Rk w B l e) (i : Nat) : w.frozen? ⟨B, i, none⟩ = false := by
  unfold Rk at h
  simp [World.frozen?, h]
theorem Rk.set0 {w : World} {B : Nat} {l : List UInt8} {e : Int} (h : Rk w B l e) (m : List UInt8) : Rk (w.setCell ⟨B, 0, none⟩ (.string (str m))) B m e := by
  unfold Rk at h ⊢
  simp [World.setCell, Array.getElem?_modify, h]
theorem Rk.set1 {w : World} {B : Nat} {l : List UInt8} {e : Int} (h : Rk w B l e) (u : Int) : Rk (w.setCell ⟨B, 1, none⟩ (.int .i64 u)) B l u := by
  unfold Rk at h ⊢
  simp [World.setCell, Array.getElem?_modify, h]
theorem Rk.below {w w' : World} {B base : Nat} {l : List UInt8} {e : Int} (h : Rk w B l e) (hb : Below base w w') (hB : B < base) : Rk w' B l e := (hb.block B hB).trans h
theorem Rk.grown {w w' : World} {B : Nat} {l : List UInt8} {e : Int} {row : Option Nat} (h : Rk w B l e) (hb : w.grownBy w' row) (hB : some B ≠ row) : Rk w' B l e := (hb.block B h.lt hB).trans h
theorem rown_ne {w : World} {B : Nat} {l : List UInt8} {e : Int} (h : Rk w B l e) {base t sz n : Nat} {u : Value} {cs : List Value} (hr : w.ownsRow base t sz u n cs) (ht : t ≠ 78) : some B ≠ u.ownBlock := by
  rcases hr.2 with ⟨rfl, -⟩ | ⟨g, cap, cur, rfl, -, hh, -⟩
  · simp [Value.ownBlock]
  · intro he
    have : g = B := by simpa [Value.ownBlock] using he.symm
    subst this
    unfold Rk at h
    rw [h] at hh
    simp only [Option.some.injEq, Obj.cells.injEq] at hh
    exact ht hh.2.1.symm
theorem ownsRow.rbut {w w' : World} {B : Nat} {l : List UInt8} {e : Int} (h : Rk w B l e) (hb : But B w w') {base t sz n : Nat} {u : Value} {cs : List Value} (hr : w.ownsRow base t sz u n cs) (ht : t ≠ 78) : w'.ownsRow base t sz u n cs := by
  have hne := rown_ne h hr ht
  refine ⟨hr.1, ?_⟩
  rcases hr.2 with h2 | ⟨g, cap, cur, rfl, hg, hh, r⟩
  · exact .inl h2
  · refine .inr ⟨g, cap, cur, rfl, hg, ?_, r⟩
    rw [hb.block g (fun e => hne (by simp [Value.ownBlock, e]))]
    exact hh

/-- What a taken number leaves. -/
structure RTook (w w' : World) (B n : Nat) (l : List UInt8) (e : Int) : Prop where
  rk : Rk w' B (T.tl n l e) (T.te n l e)
  but : But B w w'
def T.ts (n : Nat) (l : List UInt8) (e : Int) : List UInt8 := if e = 0 then if n ≤ l.length then l.take n else [] else []
theorem T.tv_ts (n : Nat) (l : List UInt8) (e : Int) : T.tv n l e = T.val (T.ts n l e) := by
  unfold T.tv T.ts
  split
  · split <;> rfl
  · rfl
theorem T.ts_length {n : Nat} (h : n ≤ 8) (l : List UInt8) (e : Int) : (T.ts n l e).length ≤ 8 := by
  unfold T.ts
  split
  · split
    · rw [List.length_take]; omega
    · decide
  · decide

set_option maxHeartbeats 1000000 in
theorem rsome_any (B n : Nat) (l : List UInt8) (e : Int) (w : World) (hrk : Rk w B l e) :
    Calls Tryd.prog 78 #[.pointer (some ⟨B, 0, none⟩), .int .i64 n] w fun r w' => r = .returned (.string (str (T.ts n l e))) ∧ RTook w w' B n l e := by
  have c0 := hrk.cell0
  have c1 := hrk.cell1
  have f0 := hrk.frozen 0
  have f1 := hrk.frozen 1
  by_cases he : e = 0
  · subst he
    by_cases hn : n ≤ l.length
    · have dn : decide ((l.length : Int) < (n : Int)) = false := by simp; omega
      have dn2 : decide (l.length < n) = false := by simp; omega
      obtain ⟨-, q2, q3⟩ := T.tv_good hn
      have hts : T.ts n l 0 = l.take n := by simp [T.ts, hn]
      have HQ := Lib.hid (And.intro hts (And.intro q2 q3))
      have hx0 := str_takeN l n
      have hx1 := str_dropN l n
      have HRK := Lib.hid hrk
      clear q2 q3 hts hrk
      go_enter Tryd.func78, Tryd.ntmps78
      go_wp2_with fail
      go_ret
      exact ⟨by rw [HQ.out.1]; rfl, ⟨by rw [HQ.out.2.1, HQ.out.2.2]; exact HRK.out.set0 _, But.setCell _ _ _ _⟩⟩
    · have dn : decide ((l.length : Int) < (n : Int)) = true := by simp; omega
      have dn2 : decide (l.length < n) = true := by simp; omega
      obtain ⟨-, q2, q3⟩ := T.tv_short hn
      have hts : T.ts n l 0 = [] := by simp [T.ts, hn]
      have HQ := Lib.hid (And.intro hts (And.intro q2 q3))
      have HRK := Lib.hid hrk
      clear q2 q3 hts hrk
      go_enter Tryd.func78, Tryd.ntmps78
      go_wp2_with fail
      go_ret
      exact ⟨by rw [HQ.out.1]; rfl, ⟨by rw [HQ.out.2.1, HQ.out.2.2]; exact HRK.out.set1 _, But.setCell _ _ _ _⟩⟩
  · have de : (e == 0) = false := by simp [he]
    have de2 : (e != 0) = true := by simp [he]
    obtain ⟨-, q2, q3⟩ := T.tv_bad (n := n) (l := l) he
    have hts : T.ts n l e = [] := by simp [T.ts, he]
    have HQ := Lib.hid (And.intro hts (And.intro q2 q3))
    have HRK := Lib.hid hrk
    clear q2 q3 hts hrk he
    go_enter Tryd.func78, Tryd.ntmps78
    go_wp2_with fail
    go_ret
    exact ⟨by rw [HQ.out.1]; rfl, ⟨by rw [HQ.out.2.1, HQ.out.2.2]; exact HRK.out, But.refl _ _⟩⟩

set_option maxHeartbeats 1000000 in
theorem rnum_any (B n : Nat) (l : List UInt8) (e : Int) (w : World) (h1 : 1 ≤ n) (h8 : n ≤ 8) (hrk : Rk w B l e) :
    Calls Tryd.prog 66 #[.pointer (some ⟨B, 0, none⟩), .int .i64 n] w fun r w' => r = .returned (.int .u64 (T.tv n l e : Nat)) ∧ RTook w w' B n l e := by
  have c1 := hrk.cell1
  have d1 : decide ((n : Int) < 1) = false := by simp; omega
  have d2 : decide ((8 : Int) < (n : Int)) = false := by simp; omega
  have d3 : decide (8 < n) = false := by simp; omega
  by_cases he : e = 0
  · subst he
    have HS := Lib.hid (rsome_any B n l 0 w hrk)
    have HV := Lib.hid (T.tv_ts n l 0)
    have hsl := T.ts_length h8 l 0
    obtain ⟨m, hm⟩ : ∃ m, T.ts n l 0 = m := ⟨_, rfl⟩
    rw [hm] at HS HV hsl
    clear hrk hm
    have hss := str_size m
    obtain ⟨sl, hsl2⟩ : ∃ sl, str m = sl := ⟨_, rfl⟩
    rw [hsl2] at HS hss
    have HSL := Lib.hid hsl2
    clear hsl2
    have HSS := Lib.hid hss
    have hs8 : sl.size ≤ 8 := by omega
    clear hss hsl
    go_enter Tryd.func66, Tryd.ntmps66
    go_wp2_with fail
    refine HS.out.mono ?_
    rintro r w' ⟨rfl, ht⟩
    clear HS c1
    go_wp2_with fail
    go_loop [6, 7] (fun t i => ∃ k : Nat, k ≤ sl.size ∧ i = .int .i64 k ∧ t = .int .u64 (T.val (m.take k) : Nat)) (fun _ i => sl.size - (intOf i).toNat)
    case atStart => exact ⟨0, by omega, rfl, rfl⟩
    case round =>
      obtain ⟨k, hk, rfl, rfl⟩ := hrel
      by_cases hlt : k < sl.size
      · have hkm : k < m.length := by have := HSS.out; omega
        obtain ⟨c, hcc⟩ : ∃ c, sl[k] = c := ⟨_, rfl⟩
        have hcl : Hid (m[k] = c) := by
          have h2 := HSL.out
          subst h2
          exact hcc
        have hs : Hid (T.val (m.take (k + 1)) = T.val (m.take k) * 256 + c.toNat) := by
          unfold Hid
          rw [List.take_succ_eq_append_getElem hkm, T.val_snoc, hcl.out]
        have hx := T.val_lt8 (l := m.take k) (by rw [List.length_take]; omega)
        obtain ⟨x, hxx⟩ : ∃ x, T.val (m.take k) = x := ⟨_, rfl⟩
        rw [hxx] at hs hx ⊢
        have hw : (c.toNat : Int) < 256 := by have := c.toNat_lt; omega
        clear hxx
        go_wp2_with fail
        go_round
        case rel => exact ⟨k + 1, by omega, by go_num, by rw [hs.out]; go_num⟩
        case measure => simp [intOf]; omega
      · have hfin : Hid (T.val (m.take k) = T.tv n l 0) := by
          unfold Hid
          rw [List.take_of_length_le (by have := HSS.out; omega), HV.out]
        go_wp2_with fail
        go_ret
        exact ⟨by rw [← hfin.out]; rfl, ht⟩
  · have de : (e == 0) = false := by simp [he]
    have de2 : (e != 0) = true := by simp [he]
    obtain ⟨q1, q2, q3⟩ := T.tv_bad (n := n) (l := l) he
    have HQ := Lib.hid (And.intro q1 (And.intro q2 q3))
    have HRK := Lib.hid hrk
    clear q1 q2 q3 hrk he
    go_enter Tryd.func66, Tryd.ntmps66
    go_wp2_with fail
    go_ret
    exact ⟨by rw [HQ.out.1]; rfl, ⟨by rw [HQ.out.2.1, HQ.out.2.2]; exact HRK.out, But.refl _ _⟩⟩
end Go.Proofs.YtnfhhhcbgipmcaaDoor
