/- What an octet.Taker's calls return: Take, Num, Err, Done. -/
import Derived.Test.YtnfhhhcbgipmcaaDoorClone
import Derived.Test.YtnfhhhcbgipmcaaDoorTakePlain
import Derived.Test.YtnfhhhcbgipmcaaDoorU64
namespace Go.Proofs.YtnfhhhcbgipmcaaDoor
open Go Go.RowKit

/-- Nothing but block B is another one. -/
structure But (B : Nat) (w w' : World) : Prop where
  os : w'.os = w.os
  tape : w'.tape = w.tape
  output : w'.output = w.output
  size : w'.heap.size = w.heap.size
  block : ∀ k, k ≠ B → w'.heap[k]? = w.heap[k]?
theorem But.refl (B : Nat) (w : World) : But B w w := ⟨rfl, rfl, rfl, rfl, fun _ _ => rfl⟩
theorem But.trans {B : Nat} {a b c : World} (h : But B a b) (k : But B b c) : But B a c := ⟨k.os.trans h.os, k.tape.trans h.tape, k.output.trans h.output, k.size.trans h.size, fun i hi => (k.block i hi).trans (h.block i hi)⟩
theorem But.setCell (B i : Nat) (w : World) (v : Value) : But B w (w.setCell ⟨B, i, none⟩ v) := ⟨rfl, rfl, rfl, by simp [World.setCell], fun k hk => Below.heap_setCell _ _ _ _ (by simpa using hk)⟩
theorem But.drewN (B : Nat) (w : World) (n : Nat) : But B w (w.drewN n) := ⟨rfl, rfl, rfl, rfl, fun _ _ => rfl⟩
theorem But.below {B base : Nat} {w w' : World} (h : But B w w') (hb : base ≤ B) : Below base w w' := ⟨h.os, h.tape, h.output, Nat.le_of_eq h.size.symm, fun k hk => h.block k (by omega)⟩

/-- Block B is a Taker of the value v and the error e. -/
def Tk (w : World) (B : Nat) (v : Value) (e : Int) : Prop := w.heap[B]? = some (.cells #[v, .int .i64 e] 91 (0, 0))
theorem Tk.lt {w : World} {B : Nat} {v : Value} {e : Int} (h : Tk w B v e) : B < w.heap.size := (Array.getElem?_eq_some_iff.1 h).1
theorem Tk.cell0 {w : World} {B : Nat} {v : Value} {e : Int} (h : Tk w B v e) : w.cell? ⟨B, 0, none⟩ = some v := cell_of_row w B 0 _ _ (0, 0) h
theorem Tk.cell1 {w : World} {B : Nat} {v : Value} {e : Int} (h : Tk w B v e) : w.cell? ⟨B, 1, none⟩ = some (.int .i64 e) := cell_of_row w B 1 _ _ (0, 0) h
theorem Tk.frozen {w : World} {B : Nat} {v : Value} {e : Int} (h : Tk w B v e) (i : Nat) : w.frozen? ⟨B, i, none⟩ = false := by
  unfold Tk at h
  simp [World.frozen?, h]
theorem Tk.set0 {w : World} {B : Nat} {v : Value} {e : Int} (h : Tk w B v e) (u : Value) : Tk (w.setCell ⟨B, 0, none⟩ u) B u e := by
  unfold Tk at h ⊢
  simp [World.setCell, Array.getElem?_modify, h]
theorem Tk.set1 {w : World} {B : Nat} {v : Value} {e : Int} (h : Tk w B v e) (u : Int) : Tk (w.setCell ⟨B, 1, none⟩ (.int .i64 u)) B v u := by
  unfold Tk at h ⊢
  simp [World.setCell, Array.getElem?_modify, h]
theorem Tk.below {w w' : World} {B base : Nat} {v : Value} {e : Int} (h : Tk w B v e) (hb : Below base w w') (hB : B < base) : Tk w' B v e := (hb.block B hB).trans h
theorem Tk.grown {w w' : World} {B : Nat} {v : Value} {e : Int} {row : Option Nat} (h : Tk w B v e) (hb : w.grownBy w' row) (hB : some B ≠ row) : Tk w' B v e := (hb.block B h.lt hB).trans h
/-- What is owned, of another type, stays where a Taker alone is written. -/
theorem own_ne {w : World} {B : Nat} {v : Value} {e : Int} (h : Tk w B v e) {base t sz n : Nat} {u : Value} {cs : List Value} (hr : w.ownsRow base t sz u n cs) (ht : t ≠ 91) : some B ≠ u.ownBlock := by
  rcases hr.2 with ⟨rfl, -⟩ | ⟨g, cap, cur, rfl, -, hh, -⟩
  · simp [Value.ownBlock]
  · intro he
    have : g = B := by simpa [Value.ownBlock] using he.symm
    subst this
    unfold Tk at h
    rw [h] at hh
    simp only [Option.some.injEq, Obj.cells.injEq] at hh
    exact ht hh.2.1.symm
theorem ownsRow.but {w w' : World} {B : Nat} {v : Value} {e : Int} (h : Tk w B v e) (hb : But B w w') {base t sz n : Nat} {u : Value} {cs : List Value} (hr : w.ownsRow base t sz u n cs) (ht : t ≠ 91) : w'.ownsRow base t sz u n cs := by
  have hne := own_ne h hr ht
  refine ⟨hr.1, ?_⟩
  rcases hr.2 with h2 | ⟨g, cap, cur, rfl, hg, hh, r⟩
  · exact .inl h2
  · refine .inr ⟨g, cap, cur, rfl, hg, ?_, r⟩
    rw [hb.block g (fun e => hne (by simp [Value.ownBlock, e]))]
    exact hh

theorem shl8_or (x c : Nat) (hx : x < 72057594037927936) (hc : c < 256) : bits BinOp.or IntKind.u64 ((x * 256 : Nat) : Int) (c : Int) = ((x * 256 + c : Nat) : Int) := by
  rw [u64_or_nat _ _ (by omega) (by omega)]
  congr 1
  have := Nat.two_pow_add_eq_or_of_lt (i := 8) (b := c) hc x
  rw [Nat.mul_comm x 256]
  exact this.symm

set_option maxHeartbeats 400000 in
theorem num1_any (v : Value) (l : List UInt8) (w : World) (h : Bs w v l) (hl : l.length ≤ 8) :
    Calls Tryd.prog 77 #[v] w fun e w' => e = .returned (.int .u64 (T.val l : Nat)) ∧ w = w' := by
  obtain ⟨ao, cap, rfl, -⟩ := h.shape
  have HB := Lib.hid h
  clear h
  obtain ⟨N, hN⟩ : ∃ N, l.length = N := ⟨_, rfl⟩
  rw [hN] at HB hl ⊢
  go_enter Tryd.func77, Tryd.ntmps77
  go_wp2_with fail
  go_loop [3, 8] (fun t i => ∃ k : Nat, k ≤ N ∧ i = .int .i64 k ∧ t = .int .u64 (T.val (l.take k) : Nat)) (fun _ i => N - (intOf i).toNat)
  case atStart => exact ⟨0, by omega, rfl, rfl⟩
  case round =>
    obtain ⟨k, hk, rfl, rfl⟩ := hrel
    by_cases hlt : k < N
    · obtain ⟨b, off, rfl, hc⟩ := HB.out.at (j := k) (by omega)
      replace hc := hc k (by omega)
      obtain ⟨c, hcc⟩ : ∃ c, l[k] = c := ⟨_, rfl⟩
      rw [hcc] at hc
      have hs : Hid (T.val (l.take (k + 1)) = T.val (l.take k) * 256 + c.toNat) := by
        unfold Hid
        rw [List.take_succ_eq_append_getElem (by omega), T.val_snoc, hcc]
      have hx := T.val_lt8 (l := l.take k) (by rw [List.length_take]; omega)
      obtain ⟨x, hxx⟩ : ∃ x, T.val (l.take k) = x := ⟨_, rfl⟩
      rw [hxx] at hs hx ⊢
      obtain ⟨y, hyy⟩ : ∃ y, c.toNat = y := ⟨_, rfl⟩
      have hy : y < 256 := by have := c.toNat_lt; omega
      rw [hyy] at hs hc
      clear hxx hyy hcc
      have hor : bits BinOp.or IntKind.u64 ((x : Int) * 256) (y : Int) = ((x * 256 + y : Nat) : Int) := by
        rw [← shl8_or x y hx hy, Int.natCast_mul]; rfl
      have hklt : (k : Int) < (N : Int) := by omega
      go_wp2_with fail
      go_round
      case rel => exact ⟨k + 1, by omega, by go_num, by rw [hs.out]; go_num⟩
      case measure => simp [intOf]; omega
    · obtain rfl : k = N := by omega
      rw [List.take_of_length_le (Nat.le_of_eq hN)]
      go_wp2_with fail
      go_ret
      exact ⟨rfl, rfl⟩

/-- What a taken number leaves: block B a Taker still, of what is left. -/
structure Took (w0 w w' : World) (B n : Nat) (l : List UInt8) (e : Int) (v' : Value) : Prop where
  tk : Tk w' B v' (T.te n l e)
  bs : Bs w0 v' (T.tl n l e)
  but : But B w w'

set_option maxHeartbeats 1000000 in
theorem some_any (B n : Nat) (v : Value) (l : List UInt8) (e : Int) (w0 w : World) (h8 : n ≤ 8) (htk : Tk w B v e) (hbs : Bs w0 v l) (hb : Below w0.heap.size w0 w) (hB : w0.heap.size ≤ B) :
    Calls Tryd.prog 76 #[.pointer (some ⟨B, 0, none⟩), .int .i64 n, .func (.func 77) #[] #[]] w fun r w' => ∃ v', r = .returned (.int .u64 (T.tv n l e : Nat)) ∧ Took w0 w w' B n l e v' := by
  obtain ⟨ao, cap, rfl, -⟩ := hbs.shape
  have c0 := htk.cell0
  have c1 := htk.cell1
  have f0 := htk.frozen 0
  have f1 := htk.frozen 1
  have hlen : l.length ≤ 9223372036854775807 := by
    obtain ⟨_, ao', cap', _, h1, h2, _⟩ := hbs
    unfold maxLen at h2
    omega
  by_cases he : e = 0
  · subst he
    by_cases hn : n ≤ l.length
    · have dn : decide ((l.length : Int) < (n : Int)) = false := by simp; omega
      obtain ⟨q1, q2, q3⟩ := T.tv_good hn
      have HQ := Lib.hid (And.intro q1 (And.intro q2 q3))
      obtain ⟨vt, hvt, hrt⟩ := run_btake (P := Tryd.prog) Tryd.underlying33 infoU8 hbs .i64 n hn
      obtain ⟨vd, hvd, hrd⟩ := run_bdrop (P := Tryd.prog) Tryd.underlying33 infoU8 hbs .i64 n hn
      obtain ⟨M, hM⟩ : ∃ M, (l.drop n).length = M := ⟨_, rfl⟩
      obtain ⟨aod, capd, rfl, -⟩ := hvd.shape
      rw [hM] at hvd hrd
      obtain ⟨aot, capt, rfl, -⟩ := hvt.shape
      obtain ⟨K, hK⟩ : ∃ K, (l.take n).length = K := ⟨_, rfl⟩
      rw [hK] at hvt hrt
      have HN := Lib.hid (fun W (hW : Below w0.heap.size w0 W) => num1_any _ (l.take n) W (hvt.below hW) (by rw [hK]; rw [List.length_take] at hK; omega))
      have HVD := Lib.hid hvd
      have HTK := Lib.hid htk
      have HB := Lib.hid hb
      obtain ⟨N, hN⟩ : ∃ N, l.length = N := ⟨_, rfl⟩
      rw [hN] at hrt hrd dn hlen hn c0
      have dn2 : decide (N < n) = false := by simp; omega
      clear q1 q2 q3 hvt hvd hbs htk hb
      clear hN hM hK
      go_enter Tryd.func76, Tryd.ntmps76
      go_wp2_with fail
      refine (HN.out _ (HB.out.trans (But.below (But.setCell _ _ _ _) hB))).mono ?_
      rintro e w' ⟨rfl, rfl⟩
      go_wp2_with fail
      go_ret
      refine ⟨_, by rw [HQ.out.1]; rfl, ⟨by rw [HQ.out.2.2]; exact HTK.out.set0 _, by rw [HQ.out.2.1]; exact HVD.out, But.setCell _ _ _ _⟩⟩
    · have dn : decide ((l.length : Int) < (n : Int)) = true := by simp; omega
      obtain ⟨q1, q2, q3⟩ := T.tv_short hn
      have HQ := Lib.hid (And.intro q1 (And.intro q2 q3))
      have HTK := Lib.hid htk
      have HBS := Lib.hid hbs
      obtain ⟨N, hN⟩ : ∃ N, l.length = N := ⟨_, rfl⟩
      rw [hN] at dn hlen hn c0
      have dn2 : decide (N < n) = true := by simp; omega
      clear q1 q2 q3 hbs htk hb
      go_enter Tryd.func76, Tryd.ntmps76
      go_wp2_with fail
      go_ret
      refine ⟨_, by rw [HQ.out.1]; rfl, ⟨by rw [HQ.out.2.2]; exact HTK.out.set1 _, by rw [HQ.out.2.1]; exact HBS.out, But.setCell _ _ _ _⟩⟩
  · have de : (e == 0) = false := by simp [he]
    have de2 : (e != 0) = true := by simp [he]
    obtain ⟨q1, q2, q3⟩ := T.tv_bad (n := n) (l := l) he
    have HQ := Lib.hid (And.intro q1 (And.intro q2 q3))
    have HTK := Lib.hid htk
    have HBS := Lib.hid hbs
    clear q1 q2 q3 hbs htk hb he
    go_enter Tryd.func76, Tryd.ntmps76
    go_wp2_with fail
    go_ret
    refine ⟨_, by rw [HQ.out.1]; rfl, ⟨by rw [HQ.out.2.2]; exact HTK.out, by rw [HQ.out.2.1]; exact HBS.out, But.refl _ _⟩⟩

set_option maxHeartbeats 1000000 in
theorem tnum_any (B n : Nat) (v : Value) (l : List UInt8) (e : Int) (w0 w : World) (h1 : 1 ≤ n) (h8 : n ≤ 8) (htk : Tk w B v e) (hbs : Bs w0 v l) (hb : Below w0.heap.size w0 w) (hB : w0.heap.size ≤ B) :
    Calls Tryd.prog 63 #[.pointer (some ⟨B, 0, none⟩), .int .i64 n] w fun r w' => ∃ v', r = .returned (.int .u64 (T.tv n l e : Nat)) ∧ Took w0 w w' B n l e v' := by
  have c1 := htk.cell1
  have HS := Lib.hid (some_any B n v l e w0 w h8 htk hbs hb hB)
  have d1 : decide ((n : Int) < 1) = false := by simp; omega
  have d2 : decide ((8 : Int) < (n : Int)) = false := by simp; omega
  clear htk hbs hb hB
  by_cases he : e = 0
  · subst he
    go_enter Tryd.func63, Tryd.ntmps63
    go_wp2_with fail
    refine HS.out.mono ?_
    rintro r w' ⟨v', rfl, ht⟩
    go_wp2_with fail
    go_ret
    exact ⟨v', rfl, ht⟩
  · have de : (e == 0) = false := by simp [he]
    clear he
    go_enter Tryd.func63, Tryd.ntmps63
    go_wp2_with fail
    refine HS.out.mono ?_
    rintro r w' ⟨v', rfl, ht⟩
    go_wp2_with fail
    go_ret
    exact ⟨v', rfl, ht⟩

theorem err_any (B : Nat) (v : Value) (e : Int) (w : World) (htk : Tk w B v e) :
    Calls Tryd.prog 64 #[.pointer (some ⟨B, 0, none⟩)] w fun r w' => r = .returned (.int .i64 e) ∧ w = w' := by
  have c1 := htk.cell1
  clear htk
  go_enter Tryd.func64, Tryd.ntmps64
  go_wp2_with fail
  go_ret
  exact ⟨rfl, rfl⟩

/-- What Done tells: the error, or 11 where something is left. -/
def T.done (l : List UInt8) (e : Int) : Int := if e = 0 then if l = [] then 0 else 11 else e
set_option maxHeartbeats 400000 in
theorem done_any (B : Nat) (v : Value) (l : List UInt8) (e : Int) (w0 w : World) (htk : Tk w B v e) (hbs : Bs w0 v l) :
    Calls Tryd.prog 65 #[.pointer (some ⟨B, 0, none⟩)] w fun r w' => r = .returned (.int .i64 (T.done l e)) ∧ w = w' := by
  obtain ⟨ao, cap, rfl, -⟩ := hbs.shape
  have c0 := htk.cell0
  have HE := Lib.hid (err_any B _ e w htk)
  clear htk hbs
  by_cases he : e = 0
  · subst he
    by_cases hl : l = []
    · subst hl
      have hd : T.done [] 0 = 0 := rfl
      rw [hd]
      simp only [List.length_nil] at c0
      go_enter Tryd.func65, Tryd.ntmps65
      go_wp2_with fail
      refine HE.out.mono ?_
      rintro r w' ⟨rfl, rfl⟩
      go_wp2_with fail
      go_ret
      exact ⟨rfl, rfl⟩
    · have hd : T.done l 0 = 11 := by simp [T.done, hl]
      rw [hd]
      obtain ⟨N, hN⟩ : ∃ N, l.length = N := ⟨_, rfl⟩
      have hN0 : N ≠ 0 := by rw [← hN]; simpa using hl
      rw [hN] at c0
      have dN : ((N : Int) == 0) = false := by simp; omega
      clear hd hl hN
      go_enter Tryd.func65, Tryd.ntmps65
      go_wp2_with fail
      refine HE.out.mono ?_
      rintro r w' ⟨rfl, rfl⟩
      go_wp2_with fail
      go_ret
      exact ⟨rfl, rfl⟩
  · have hd : T.done l e = e := by simp [T.done, he]
    rw [hd]
    have de2 : (e != 0) = true := by simp [he]
    clear hd he
    go_enter Tryd.func65, Tryd.ntmps65
    go_wp2_with fail
    refine HE.out.mono ?_
    rintro r w' ⟨rfl, rfl⟩
    go_wp2_with fail
    go_ret
    exact ⟨rfl, rfl⟩

/-- What Take makes: a Taker of a copy, in memory of its own. -/
structure Taken (w w' : World) (l : List UInt8) (B : Nat) (v : Value) (w0 : World) : Prop where
  tk : Tk w' B v 0
  bs : Bs w0 v l
  first : Below w.heap.size w w0
  next : Below w0.heap.size w0 w'
  at_ : w0.heap.size ≤ B
set_option maxHeartbeats 400000 in
theorem take_any (v : Value) (l : List UInt8) (w : World) (h : Bs w v l) (hl : l.length ≤ 100000) :
    Calls Tryd.prog 62 #[v] w fun r w' => ∃ B v' w0, r = .returned (.pointer (some ⟨B, 0, none⟩)) ∧ Taken w w' l B v' w0 := by
  have HC := Lib.hid (bytesClone_any v l w h hl)
  clear h
  go_enter Tryd.func62, Tryd.ntmps62
  go_wp2_with fail
  refine HC.out.mono ?_
  rintro e w1 ⟨v1, rfl, hown, hbel⟩
  have HB := Bs.of_owns hown
  obtain ⟨ao, cap, rfl, -⟩ := HB.shape
  go_wp2_with fail
  go_ret
  exact ⟨w1.heap.size, _, w1, rfl, ⟨heap_alloc_new _ _, HB, hbel, (Below.refl _ _).alloc (Nat.le_refl _) _, Nat.le_refl _⟩⟩
end Go.Proofs.YtnfhhhcbgipmcaaDoor
