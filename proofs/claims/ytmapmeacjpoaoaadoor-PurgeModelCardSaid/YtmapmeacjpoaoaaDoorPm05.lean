/- What the reference's letter, whole, Name, find return: something. What op.Trim returns. What the reference's Below returns. What follows from rows: the closure, by Warshall's rounds. No program. When rows are a lattice. No program. -/
import Derived.Test.YtmapmeacjpoaoaaDoorPm04
import Derived.Laws.RangeAny
namespace Go.Proofs.YtmapmeacjpoaoaaDoor
open Go Go.RowKit

set_option maxHeartbeats 1000000 in
theorem letter_any (c : Int) : ∃ b : Bool, ∀ w : World, Calls Tryd.prog 66 #[.int .i32 c] w fun e w' => e = .returned (.bool b) ∧ w = w' := by
  by_cases h1 : c < 65
  · refine ⟨false, fun w => ?_⟩
    have d1 : decide ((97 : Int) ≤ c) = false := by simp; omega
    have d2 : decide ((65 : Int) ≤ c) = false := by simp; omega
    have d3 : decide ((128 : Int) ≤ c) = false := by simp; omega
    go_enter Tryd.func66, Tryd.ntmps66
    go_wp2_with fail
    go_ret
    exact ⟨rfl, rfl⟩
  · by_cases h2 : c ≤ 90
    · refine ⟨true, fun w => ?_⟩
      have d1 : decide ((97 : Int) ≤ c) = false := by simp; omega
      have d2 : decide ((65 : Int) ≤ c) = true := by simp; omega
      have d3 : decide (c ≤ 90) = true := by simp; omega
      go_enter Tryd.func66, Tryd.ntmps66
      go_wp2_with fail
      go_ret
      exact ⟨rfl, rfl⟩
    · by_cases h3 : c < 97
      · refine ⟨false, fun w => ?_⟩
        have d1 : decide ((97 : Int) ≤ c) = false := by simp; omega
        have d2 : decide ((65 : Int) ≤ c) = true := by simp; omega
        have d3 : decide (c ≤ 90) = false := by simp; omega
        have d4 : decide ((128 : Int) ≤ c) = false := by simp; omega
        go_enter Tryd.func66, Tryd.ntmps66
        go_wp2_with fail
        go_ret
        exact ⟨rfl, rfl⟩
      · by_cases h4 : c ≤ 122
        · refine ⟨true, fun w => ?_⟩
          have d1 : decide ((97 : Int) ≤ c) = true := by simp; omega
          have d2 : decide (c ≤ 122) = true := by simp; omega
          go_enter Tryd.func66, Tryd.ntmps66
          go_wp2_with fail
          go_ret
          exact ⟨rfl, rfl⟩
        · by_cases h5 : c < 128
          · refine ⟨false, fun w => ?_⟩
            have d1 : decide ((97 : Int) ≤ c) = true := by simp; omega
            have d2 : decide (c ≤ 122) = false := by simp; omega
            have d3 : decide ((65 : Int) ≤ c) = true := by simp; omega
            have d4 : decide (c ≤ 90) = false := by simp; omega
            have d5 : decide ((128 : Int) ≤ c) = false := by simp; omega
            go_enter Tryd.func66, Tryd.ntmps66
            go_wp2_with fail
            go_ret
            exact ⟨rfl, rfl⟩
          · refine ⟨true, fun w => ?_⟩
            have d1 : decide ((97 : Int) ≤ c) = true := by simp; omega
            have d2 : decide (c ≤ 122) = false := by simp; omega
            have d3 : decide ((65 : Int) ≤ c) = true := by simp; omega
            have d4 : decide (c ≤ 90) = false := by simp; omega
            have d5 : decide ((128 : Int) ≤ c) = true := by simp; omega
            go_enter Tryd.func66, Tryd.ntmps66
            go_wp2_with fail
            go_ret
            exact ⟨rfl, rfl⟩

theorem decode_wide (s : ByteArray) (pos : Nat) (h : pos < s.size) : 1 ≤ (Utf8.decode s pos).2 := by
  by_cases ha : (s[pos]'h).toNat < 128
  · rw [decode_ascii s pos h ha]; exact Nat.le_refl _
  · exact (decode_high s pos h (by omega)).2
theorem iter_below (w : World) (s : ByteArray) (pos : Nat) : Below w.heap.size w (w.iter s pos) := (Below.refl _ _).alloc (Nat.le_refl _) _

set_option maxHeartbeats 1000000 in
theorem find_any (l : List (List UInt8)) (s : List UInt8) : ∃ r : Int, ∀ (v : Value) (w : World), Ks w v l → Calls Tryd.prog 41 #[v, .string (str s)] w fun e w' => e = .returned (.int .i64 r) ∧ w = w' := by
  have hex : ∃ r : Nat, r ≤ l.length ∧ (∀ j (h : j < l.length), j < r → l[j] ≠ s) ∧ (∀ h : r < l.length, l[r] = s) := by
    induction l with
    | nil => exact ⟨0, Nat.le_refl _, (fun j h => by simp at h), (fun h => by simp at h)⟩
    | cons x l ih =>
      by_cases hx : x = s
      · exact ⟨0, by simp, (fun j h h2 => by omega), (fun h => by simpa using hx)⟩
      · obtain ⟨r, h1, h2, h3⟩ := ih
        refine ⟨r + 1, by simpa using h1, fun j h h' => ?_, fun h => by simpa using h3 (by simpa using h)⟩
        cases j with
        | zero => simpa using hx
        | succ j => simpa using h2 j (by simpa using h) (by omega)
  obtain ⟨r, h1, h2, h3⟩ := hex
  have HB := Lib.hid h2
  have HR := Lib.hid h3
  clear h2 h3
  refine ⟨if r < l.length then (r : Int) else -1, fun v w hv => ?_⟩
  obtain ⟨ao, cap, rfl, -⟩ := hv.shape
  have hbig := hv.len
  have HV := Lib.hid hv
  clear hv
  obtain ⟨n, hn⟩ : ∃ n, l.length = n := ⟨_, rfl⟩
  have HN := Lib.hid hn
  rw [hn] at HV h1 hbig ⊢
  clear hn
  by_cases hr : r < n
  · rw [if_pos hr]
    go_enter Tryd.func41, Tryd.ntmps41
    go_wp2_with fail
    go_loopw [5] (fun i wr => ∃ k : Nat, k ≤ r ∧ i = .int .i64 k ∧ w = wr) (fun i _ => n - (intOf i).toNat)
    case atStart => exact ⟨0, by omega, rfl, rfl⟩
    case round =>
      obtain ⟨k, hk, rfl, rfl⟩ := hrel
      have hkI : (k : Int) < (n : Int) := by omega
      have hk0 : (0 : Int) ≤ (k : Int) := by omega
      obtain ⟨b, off, rfl, hat⟩ := HV.out.at (j := k) (by rw [HN.out]; omega)
      have hc := hat w (Below.refl _ _) k (by rw [HN.out]; omega)
      by_cases hkr : k = r
      · subst hkr
        rw [HR.out (by rw [HN.out]; exact hr)] at hc
        have d : (s == s) = true := by simp
        clear hat
        go_wp2_with fail
        go_ret
        exact ⟨rfl, rfl⟩
      · have hne := HB.out k (by rw [HN.out]; omega) (by omega)
        obtain ⟨x, hx⟩ : ∃ x, l[k]'(by rw [HN.out]; omega) = x := ⟨_, rfl⟩
        rw [hx] at hc hne
        have d : (x == s) = false := by simpa using hne
        clear hat hne hx
        go_wp2_with fail
        go_roundw
        case rel => exact ⟨k + 1, by omega, by go_num, by first | rfl | trivial⟩
        case measure => simp [intOf]; omega
  · rw [if_neg hr]
    go_enter Tryd.func41, Tryd.ntmps41
    go_wp2_with fail
    go_loopw [5] (fun i wr => ∃ k : Nat, k ≤ n ∧ i = .int .i64 k ∧ w = wr) (fun i _ => n - (intOf i).toNat)
    case atStart => exact ⟨0, by omega, rfl, rfl⟩
    case round =>
      obtain ⟨k, hk, rfl, rfl⟩ := hrel
      by_cases hkn : k < n
      · have hkI : (k : Int) < (n : Int) := by omega
        have hk0 : (0 : Int) ≤ (k : Int) := by omega
        obtain ⟨b, off, rfl, hat⟩ := HV.out.at (j := k) (by rw [HN.out]; omega)
        have hc := hat w (Below.refl _ _) k (by rw [HN.out]; omega)
        have hne := HB.out k (by rw [HN.out]; omega) (by omega)
        obtain ⟨x, hx⟩ : ∃ x, l[k]'(by rw [HN.out]; omega) = x := ⟨_, rfl⟩
        rw [hx] at hc hne
        have d : (x == s) = false := by simpa using hne
        clear hat hne hx
        go_wp2_with fail
        go_roundw
        case rel => exact ⟨k + 1, by omega, by go_num, by first | rfl | trivial⟩
        case measure => simp [intOf]; omega
      · go_wp2_with fail
        go_ret
        exact ⟨rfl, rfl⟩
end Go.Proofs.YtmapmeacjpoaoaaDoor
namespace Go.Proofs.YtmapmeacjpoaoaaDoor
open Go Go.RowKit

/-- A block of an operation. -/
def Bop (w : World) (p : Nat) (r : Rop) : Prop := w.heap[p]? = some (.cells #[.int .i64 r.kind, .int .i64 r.level, .int .i64 r.ses, .int .i64 r.snap, .string (str r.bucket), .string (str r.key), .string (str r.val), .int .i64 r.label, .int .i64 r.to, .int .i64 r.n, r.keep] 33 (0, 0))
theorem Bop.lt {w : World} {p : Nat} {r : Rop} (h : Bop w p r) : p < w.heap.size := (Array.getElem?_eq_some_iff.1 h).1
theorem Bop.later {w w' : World} {p : Nat} {r : Rop} (h : Bop w p r) (hb : Below w.heap.size w w') : Bop w' p r := (hb.block p h.lt).trans h
theorem Bop.below {w w' : World} {p B : Nat} {r : Rop} (h : Bop w p r) (hb : Below B w w') (hp : p < B) : Bop w' p r := (hb.block p hp).trans h
theorem Bop.at {w : World} {p : Nat} {r : Rop} (h : Bop w p r) : OpAt w p 0 r :=
  ⟨cell_of_row w p 0 _ _ (0, 0) h, cell_of_row w p 1 _ _ (0, 0) h, cell_of_row w p 2 _ _ (0, 0) h, cell_of_row w p 3 _ _ (0, 0) h, cell_of_row w p 4 _ _ (0, 0) h, cell_of_row w p 5 _ _ (0, 0) h, cell_of_row w p 6 _ _ (0, 0) h, cell_of_row w p 7 _ _ (0, 0) h, cell_of_row w p 8 _ _ (0, 0) h, cell_of_row w p 9 _ _ (0, 0) h, cell_of_row w p 10 _ _ (0, 0) h⟩
theorem Bop.frozen {w : World} {p : Nat} {r : Rop} (h : Bop w p r) (i : Nat) : w.frozen? ⟨p, i, none⟩ = false := frozen_of_row w p i _ _ h
theorem Bop.far {w : World} {p : Nat} {r : Rop} (h : Bop w p r) {q : Addr} (hq : p ≠ q.block) (u : Value) : Bop (w.setCell q u) p r := (Below.heap_setCell w q u p hq).trans h
theorem Bop.set10 {w : World} {p : Nat} {r : Rop} (h : Bop w p r) (u : Value) : Bop (w.setCell ⟨p, 10, none⟩ u) p (r.put u) := by
  have := heap_setCell_same w p 10 _ _ u h
  simpa [Bop, Op11.put] using this
theorem Bop.set1 {w : World} {p : Nat} {r : Rop} (h : Bop w p r) (x : Int) : Bop (w.setCell ⟨p, 1, none⟩ (.int .i64 x)) p { r with level := x } := by
  have := heap_setCell_same w p 1 _ _ (.int .i64 x) h
  simpa [Bop] using this
theorem Bop.set2 {w : World} {p : Nat} {r : Rop} (h : Bop w p r) (x : Int) : Bop (w.setCell ⟨p, 2, none⟩ (.int .i64 x)) p { r with ses := x } := by
  have := heap_setCell_same w p 2 _ _ (.int .i64 x) h
  simpa [Bop] using this
theorem Bop.set9 {w : World} {p : Nat} {r : Rop} (h : Bop w p r) (x : Int) : Bop (w.setCell ⟨p, 9, none⟩ (.int .i64 x)) p { r with n := x } := by
  have := heap_setCell_same w p 9 _ _ (.int .i64 x) h
  simpa [Bop] using this

namespace L
/-- The texts, the first k of them seen to. -/
def kept (p : Int → Bool) (l : List (List UInt8)) (k : Nat) : List (List UInt8) := (keeps p l).take k ++ l.drop k
theorem kept_end (p : Int → Bool) (l : List (List UInt8)) : kept p l l.length = keeps p l := by
  unfold kept
  rw [List.drop_length, List.append_nil, List.take_of_length_le (by rw [keeps_length]; exact Nat.le_refl _)]
theorem kept_length (p : Int → Bool) (l : List (List UInt8)) (k : Nat) : (kept p l k).length = l.length := by
  unfold kept
  rw [List.length_append, List.length_take, List.length_drop, keeps_length]
  omega
theorem kept_yes {p : Int → Bool} {l : List (List UInt8)} {k : Nat} (hk : k < l.length) (h : p (k : Int) = true) : kept p l (k + 1) = kept p l k := by
  unfold kept
  rw [List.take_succ_eq_append_getElem (by rw [keeps_length]; exact hk), keeps_at, h, if_pos rfl, List.append_assoc, List.drop_eq_getElem_cons hk]
  rfl
theorem kept_no {p : Int → Bool} {l : List (List UInt8)} {k : Nat} (hk : k < l.length) (h : p (k : Int) = false) : kept p l (k + 1) = (kept p l k).set k [] := by
  unfold kept
  have hl : ((keeps p l).take k).length = k := by rw [List.length_take, keeps_length]; omega
  rw [List.take_succ_eq_append_getElem (by rw [keeps_length]; exact hk), keeps_at, h, if_neg (by decide), List.append_assoc, List.set_append_right _ _ (by omega), hl, Nat.sub_self, List.drop_eq_getElem_cons hk]
  rfl
end L
theorem strCells_set (l : List (List UInt8)) (j : Nat) (x : List UInt8) : (strCells l).set j (.string (str x)) = strCells (l.set j x) := by
  unfold strCells
  rw [List.map_set]

/-- A block that is known whole. -/
def Rowq (w : World) (q : Nat) (cs : Array Value) : Prop := w.heap[q]? = some (.cells cs 33 (0, 0)) ∧ cs.size = 11
theorem Rowq.step {w : World} {q : Nat} {cs : Array Value} (h : Rowq w q cs) (i : Nat) (hi : i < 11) (v : Value) : (∃ v0, w.cell? ⟨q, i, none⟩ = some v0) ∧ w.frozen? ⟨q, i, none⟩ = false ∧ Rowq (w.setCell ⟨q, i, none⟩ v) q (cs.setIfInBounds i v) :=
  ⟨⟨cs[i]'(by rw [h.2]; exact hi), by rw [cell_of_row w q i _ _ (0, 0) h.1]; exact Array.getElem?_eq_getElem _⟩, frozen_of_row w q i _ _ h.1, heap_setCell_same w q i _ _ v h.1, by rw [Array.size_setIfInBounds]; exact h.2⟩
theorem Rowq.later {w w' : World} {q : Nat} {cs : Array Value} (h : Rowq w q cs) (hb : Below w.heap.size w w') : Rowq w' q cs := ⟨(hb.block q (Array.getElem?_eq_some_iff.1 h.1).1).trans h.1, h.2⟩
theorem Rowq.far {w : World} {q : Nat} {cs : Array Value} (h : Rowq w q cs) {a : Addr} (ha : q ≠ a.block) (u : Value) : Rowq (w.setCell a u) q cs := ⟨(Below.heap_setCell w a u q ha).trans h.1, h.2⟩
abbrev zeroOp : Array Value := #[.int .i64 0, .int .i64 0, .int .i64 0, .int .i64 0, .string (str []), .string (str []), .string (str []), .int .i64 0, .int .i64 0, .int .i64 0, .slice none 0 0]
/-- The world, an operation stored. -/
abbrev OpW (w : World) (q : Nat) (r : Rop) : World := (((((((((((w.setCell ⟨q, 0, none⟩ (.int .i64 r.kind)).setCell ⟨q, 1, none⟩ (.int .i64 r.level)).setCell ⟨q, 2, none⟩ (.int .i64 r.ses)).setCell ⟨q, 3, none⟩ (.int .i64 r.snap)).setCell ⟨q, 4, none⟩ (.string (str r.bucket))).setCell ⟨q, 5, none⟩ (.string (str r.key))).setCell ⟨q, 6, none⟩ (.string (str r.val))).setCell ⟨q, 7, none⟩ (.int .i64 r.label)).setCell ⟨q, 8, none⟩ (.int .i64 r.to)).setCell ⟨q, 9, none⟩ (.int .i64 r.n)).setCell ⟨q, 10, none⟩ (r.keep))
theorem Rowq.all {w : World} {q : Nat} (h : Rowq w q zeroOp) (r : Rop) :
    ((∃ v0, w.cell? ⟨q, 0, none⟩ = some v0) ∧ w.frozen? ⟨q, 0, none⟩ = false) ∧ ((∃ v0, (w.setCell ⟨q, 0, none⟩ (.int .i64 r.kind)).cell? ⟨q, 1, none⟩ = some v0) ∧ (w.setCell ⟨q, 0, none⟩ (.int .i64 r.kind)).frozen? ⟨q, 1, none⟩ = false) ∧ ((∃ v0, ((w.setCell ⟨q, 0, none⟩ (.int .i64 r.kind)).setCell ⟨q, 1, none⟩ (.int .i64 r.level)).cell? ⟨q, 2, none⟩ = some v0) ∧ ((w.setCell ⟨q, 0, none⟩ (.int .i64 r.kind)).setCell ⟨q, 1, none⟩ (.int .i64 r.level)).frozen? ⟨q, 2, none⟩ = false) ∧ ((∃ v0, (((w.setCell ⟨q, 0, none⟩ (.int .i64 r.kind)).setCell ⟨q, 1, none⟩ (.int .i64 r.level)).setCell ⟨q, 2, none⟩ (.int .i64 r.ses)).cell? ⟨q, 3, none⟩ = some v0) ∧ (((w.setCell ⟨q, 0, none⟩ (.int .i64 r.kind)).setCell ⟨q, 1, none⟩ (.int .i64 r.level)).setCell ⟨q, 2, none⟩ (.int .i64 r.ses)).frozen? ⟨q, 3, none⟩ = false) ∧ ((∃ v0, ((((w.setCell ⟨q, 0, none⟩ (.int .i64 r.kind)).setCell ⟨q, 1, none⟩ (.int .i64 r.level)).setCell ⟨q, 2, none⟩ (.int .i64 r.ses)).setCell ⟨q, 3, none⟩ (.int .i64 r.snap)).cell? ⟨q, 4, none⟩ = some v0) ∧ ((((w.setCell ⟨q, 0, none⟩ (.int .i64 r.kind)).setCell ⟨q, 1, none⟩ (.int .i64 r.level)).setCell ⟨q, 2, none⟩ (.int .i64 r.ses)).setCell ⟨q, 3, none⟩ (.int .i64 r.snap)).frozen? ⟨q, 4, none⟩ = false) ∧ ((∃ v0, (((((w.setCell ⟨q, 0, none⟩ (.int .i64 r.kind)).setCell ⟨q, 1, none⟩ (.int .i64 r.level)).setCell ⟨q, 2, none⟩ (.int .i64 r.ses)).setCell ⟨q, 3, none⟩ (.int .i64 r.snap)).setCell ⟨q, 4, none⟩ (.string (str r.bucket))).cell? ⟨q, 5, none⟩ = some v0) ∧ (((((w.setCell ⟨q, 0, none⟩ (.int .i64 r.kind)).setCell ⟨q, 1, none⟩ (.int .i64 r.level)).setCell ⟨q, 2, none⟩ (.int .i64 r.ses)).setCell ⟨q, 3, none⟩ (.int .i64 r.snap)).setCell ⟨q, 4, none⟩ (.string (str r.bucket))).frozen? ⟨q, 5, none⟩ = false) ∧ ((∃ v0, ((((((w.setCell ⟨q, 0, none⟩ (.int .i64 r.kind)).setCell ⟨q, 1, none⟩ (.int .i64 r.level)).setCell ⟨q, 2, none⟩ (.int .i64 r.ses)).setCell ⟨q, 3, none⟩ (.int .i64 r.snap)).setCell ⟨q, 4, none⟩ (.string (str r.bucket))).setCell ⟨q, 5, none⟩ (.string (str r.key))).cell? ⟨q, 6, none⟩ = some v0) ∧ ((((((w.setCell ⟨q, 0, none⟩ (.int .i64 r.kind)).setCell ⟨q, 1, none⟩ (.int .i64 r.level)).setCell ⟨q, 2, none⟩ (.int .i64 r.ses)).setCell ⟨q, 3, none⟩ (.int .i64 r.snap)).setCell ⟨q, 4, none⟩ (.string (str r.bucket))).setCell ⟨q, 5, none⟩ (.string (str r.key))).frozen? ⟨q, 6, none⟩ = false) ∧ ((∃ v0, (((((((w.setCell ⟨q, 0, none⟩ (.int .i64 r.kind)).setCell ⟨q, 1, none⟩ (.int .i64 r.level)).setCell ⟨q, 2, none⟩ (.int .i64 r.ses)).setCell ⟨q, 3, none⟩ (.int .i64 r.snap)).setCell ⟨q, 4, none⟩ (.string (str r.bucket))).setCell ⟨q, 5, none⟩ (.string (str r.key))).setCell ⟨q, 6, none⟩ (.string (str r.val))).cell? ⟨q, 7, none⟩ = some v0) ∧ (((((((w.setCell ⟨q, 0, none⟩ (.int .i64 r.kind)).setCell ⟨q, 1, none⟩ (.int .i64 r.level)).setCell ⟨q, 2, none⟩ (.int .i64 r.ses)).setCell ⟨q, 3, none⟩ (.int .i64 r.snap)).setCell ⟨q, 4, none⟩ (.string (str r.bucket))).setCell ⟨q, 5, none⟩ (.string (str r.key))).setCell ⟨q, 6, none⟩ (.string (str r.val))).frozen? ⟨q, 7, none⟩ = false) ∧ ((∃ v0, ((((((((w.setCell ⟨q, 0, none⟩ (.int .i64 r.kind)).setCell ⟨q, 1, none⟩ (.int .i64 r.level)).setCell ⟨q, 2, none⟩ (.int .i64 r.ses)).setCell ⟨q, 3, none⟩ (.int .i64 r.snap)).setCell ⟨q, 4, none⟩ (.string (str r.bucket))).setCell ⟨q, 5, none⟩ (.string (str r.key))).setCell ⟨q, 6, none⟩ (.string (str r.val))).setCell ⟨q, 7, none⟩ (.int .i64 r.label)).cell? ⟨q, 8, none⟩ = some v0) ∧ ((((((((w.setCell ⟨q, 0, none⟩ (.int .i64 r.kind)).setCell ⟨q, 1, none⟩ (.int .i64 r.level)).setCell ⟨q, 2, none⟩ (.int .i64 r.ses)).setCell ⟨q, 3, none⟩ (.int .i64 r.snap)).setCell ⟨q, 4, none⟩ (.string (str r.bucket))).setCell ⟨q, 5, none⟩ (.string (str r.key))).setCell ⟨q, 6, none⟩ (.string (str r.val))).setCell ⟨q, 7, none⟩ (.int .i64 r.label)).frozen? ⟨q, 8, none⟩ = false) ∧ ((∃ v0, (((((((((w.setCell ⟨q, 0, none⟩ (.int .i64 r.kind)).setCell ⟨q, 1, none⟩ (.int .i64 r.level)).setCell ⟨q, 2, none⟩ (.int .i64 r.ses)).setCell ⟨q, 3, none⟩ (.int .i64 r.snap)).setCell ⟨q, 4, none⟩ (.string (str r.bucket))).setCell ⟨q, 5, none⟩ (.string (str r.key))).setCell ⟨q, 6, none⟩ (.string (str r.val))).setCell ⟨q, 7, none⟩ (.int .i64 r.label)).setCell ⟨q, 8, none⟩ (.int .i64 r.to)).cell? ⟨q, 9, none⟩ = some v0) ∧ (((((((((w.setCell ⟨q, 0, none⟩ (.int .i64 r.kind)).setCell ⟨q, 1, none⟩ (.int .i64 r.level)).setCell ⟨q, 2, none⟩ (.int .i64 r.ses)).setCell ⟨q, 3, none⟩ (.int .i64 r.snap)).setCell ⟨q, 4, none⟩ (.string (str r.bucket))).setCell ⟨q, 5, none⟩ (.string (str r.key))).setCell ⟨q, 6, none⟩ (.string (str r.val))).setCell ⟨q, 7, none⟩ (.int .i64 r.label)).setCell ⟨q, 8, none⟩ (.int .i64 r.to)).frozen? ⟨q, 9, none⟩ = false) ∧ ((∃ v0, ((((((((((w.setCell ⟨q, 0, none⟩ (.int .i64 r.kind)).setCell ⟨q, 1, none⟩ (.int .i64 r.level)).setCell ⟨q, 2, none⟩ (.int .i64 r.ses)).setCell ⟨q, 3, none⟩ (.int .i64 r.snap)).setCell ⟨q, 4, none⟩ (.string (str r.bucket))).setCell ⟨q, 5, none⟩ (.string (str r.key))).setCell ⟨q, 6, none⟩ (.string (str r.val))).setCell ⟨q, 7, none⟩ (.int .i64 r.label)).setCell ⟨q, 8, none⟩ (.int .i64 r.to)).setCell ⟨q, 9, none⟩ (.int .i64 r.n)).cell? ⟨q, 10, none⟩ = some v0) ∧ ((((((((((w.setCell ⟨q, 0, none⟩ (.int .i64 r.kind)).setCell ⟨q, 1, none⟩ (.int .i64 r.level)).setCell ⟨q, 2, none⟩ (.int .i64 r.ses)).setCell ⟨q, 3, none⟩ (.int .i64 r.snap)).setCell ⟨q, 4, none⟩ (.string (str r.bucket))).setCell ⟨q, 5, none⟩ (.string (str r.key))).setCell ⟨q, 6, none⟩ (.string (str r.val))).setCell ⟨q, 7, none⟩ (.int .i64 r.label)).setCell ⟨q, 8, none⟩ (.int .i64 r.to)).setCell ⟨q, 9, none⟩ (.int .i64 r.n)).frozen? ⟨q, 10, none⟩ = false) ∧ Bop (OpW w q r) q r := by
  obtain ⟨a0, b0, h1⟩ := h.step 0 (by decide) (.int .i64 r.kind)
  obtain ⟨a1, b1, h2⟩ := h1.step 1 (by decide) (.int .i64 r.level)
  obtain ⟨a2, b2, h3⟩ := h2.step 2 (by decide) (.int .i64 r.ses)
  obtain ⟨a3, b3, h4⟩ := h3.step 3 (by decide) (.int .i64 r.snap)
  obtain ⟨a4, b4, h5⟩ := h4.step 4 (by decide) (.string (str r.bucket))
  obtain ⟨a5, b5, h6⟩ := h5.step 5 (by decide) (.string (str r.key))
  obtain ⟨a6, b6, h7⟩ := h6.step 6 (by decide) (.string (str r.val))
  obtain ⟨a7, b7, h8⟩ := h7.step 7 (by decide) (.int .i64 r.label)
  obtain ⟨a8, b8, h9⟩ := h8.step 8 (by decide) (.int .i64 r.to)
  obtain ⟨a9, b9, h10⟩ := h9.step 9 (by decide) (.int .i64 r.n)
  obtain ⟨a10, b10, h11⟩ := h10.step 10 (by decide) (r.keep)
  refine ⟨⟨a0, b0⟩, ⟨a1, b1⟩, ⟨a2, b2⟩, ⟨a3, b3⟩, ⟨a4, b4⟩, ⟨a5, b5⟩, ⟨a6, b6⟩, ⟨a7, b7⟩, ⟨a8, b8⟩, ⟨a9, b9⟩, ⟨a10, b10⟩, ?_⟩
  have := h11.1
  simpa [Bop, zeroOp] using this
theorem below_opw {base q : Nat} {w w' : World} (h : Below base w w') (hq : base ≤ q) (r : Rop) : Below base w (OpW w' q r) := (((((((((((h.setCell (p := ⟨q, 0, none⟩) hq _).setCell (p := ⟨q, 1, none⟩) hq _).setCell (p := ⟨q, 2, none⟩) hq _).setCell (p := ⟨q, 3, none⟩) hq _).setCell (p := ⟨q, 4, none⟩) hq _).setCell (p := ⟨q, 5, none⟩) hq _).setCell (p := ⟨q, 6, none⟩) hq _).setCell (p := ⟨q, 7, none⟩) hq _).setCell (p := ⟨q, 8, none⟩) hq _).setCell (p := ⟨q, 9, none⟩) hq _).setCell (p := ⟨q, 10, none⟩) hq _)
theorem own_opw {w : World} {base t sz n : Nat} {u : Value} {cs : List Value} (h : w.ownsRow base t sz u n cs) {q : Nat} (hq : q < base) (r : Rop) : (OpW w q r).ownsRow base t sz u n cs := (ownsRow_setCell_below (ownsRow_setCell_below (ownsRow_setCell_below (ownsRow_setCell_below (ownsRow_setCell_below (ownsRow_setCell_below (ownsRow_setCell_below (ownsRow_setCell_below (ownsRow_setCell_below (ownsRow_setCell_below (ownsRow_setCell_below h (a := ⟨q, 0, none⟩) hq _) (a := ⟨q, 1, none⟩) hq _) (a := ⟨q, 2, none⟩) hq _) (a := ⟨q, 3, none⟩) hq _) (a := ⟨q, 4, none⟩) hq _) (a := ⟨q, 5, none⟩) hq _) (a := ⟨q, 6, none⟩) hq _) (a := ⟨q, 7, none⟩) hq _) (a := ⟨q, 8, none⟩) hq _) (a := ⟨q, 9, none⟩) hq _) (a := ⟨q, 10, none⟩) hq _)
theorem results_cell {fn : Func} {p : Tmp} {ty : TypeId} (h : fn.results = #[.cell p ty]) (tmps : Array Value) (P : Program) (w : World) :
    (results fn tmps).run P w = ((asAddr (tmps.getD p undef)).run P w).andThen fun a w₁ => (loadVar ty a).run P w₁ := by
  simp only [results, h]
  simp [Sem.run_bind, Result.andThen]
theorem trim_results (tmps : Array Value) (w : World) (b : Nat) (r : Rop) (hp : tmps.getD 6 undef = .pointer (some ⟨b, 0, none⟩)) (hc : Bop w b r) :
    (results Tryd.f20 tmps).run Tryd.prog w = .ok (opv r) w := by
  obtain ⟨p0, p1, p2, p3, p4, p5, p6, p7, p8, p9, p10⟩ := hc.at
  rw [results_cell rfl, hp]
  go_simp
/-- What the call made, as a slice of texts. -/
theorem own_strs {w : World} {base n : Nat} {v : Value} {l : List (List UInt8)} (h : w.ownsRow base 9 1 v n (strCells l)) : ∃ a c, v = .slice a n c ∧ (0 < n → ∃ g, a = some ⟨g, 0, none⟩ ∧ base ≤ g) := by
  rcases h.2 with ⟨e, h0⟩ | ⟨g, c, cur, e, hg, -⟩
  · subst h0
    exact ⟨_, _, e, fun h => by omega⟩
  · exact ⟨_, _, e, fun _ => ⟨g, rfl, hg⟩⟩

set_option maxRecDepth 4000 in
set_option maxHeartbeats 4000000 in
theorem trim_any (vu : Value) (us : List Nat) (o : Opr) (u : Value) (level : Int) (w : World) (hu : Us w vu us) (hU : U64s us) (hk : Ks w u o.keep) (hlen : o.keep.length ≤ 100000) :
    Calls Tryd.prog 20 #[vu, opv (o.put u), .int .i64 level] w fun e w' => ∃ u', e = .returned (opv ((L.trim (fun a => L.leq us a level) o).put u')) ∧ ((u' = u ∧ (L.trim (fun a => L.leq us a level) o).keep = o.keep) ∨ w'.ownsRow w.heap.size 9 1 u' (L.trim (fun a => L.leq us a level) o).keep.length (strCells (L.trim (fun a => L.leq us a level) o).keep)) ∧ Below w.heap.size w w' := by
  have HQ := Lib.hid (fun W (hW : Below w.heap.size w W) (a : Int) => leq_any vu us a level W (hu.below hW) hU)
  have HK := Lib.hid hk
  obtain ⟨ua, uc, rfl, -⟩ := hk.shape
  clear hk hu
  by_cases h16 : o.kind = 16
  · obtain ⟨o0, o1, o2, o3, o4, o5, o6, o7, o8, o9, k⟩ := o
    simp only [] at h16 hlen HK
    subst h16
    have HTRg : Hid (L.trim (fun a => L.leq us a level) ⟨16, o1, o2, o3, o4, o5, o6, o7, o8, o9, k⟩ = if L.leq us o1 level then ⟨16, o1, o2, o3, o4, o5, o6, o7, o8, o9, L.keeps (fun a => L.leq us a level) k⟩ else ⟨16, 0, 0, o3, o4, o5, o6, o7, o8, 0, L.keeps (fun a => L.leq us a level) k⟩) := rfl
    obtain ⟨uq, hq⟩ : ∃ uq, k.length = uq := ⟨_, rfl⟩
    have HKq := Lib.hid hq
    rw [hq] at hlen HK
    try rw [hq]
    clear hq
    obtain ⟨w1, hw1⟩ : ∃ w1, (w.alloc (.cells #[.int .i64 16, .int .i64 o1, .int .i64 o2, .int .i64 o3, .string (str o4), .string (str o5), .string (str o6), .int .i64 o7, .int .i64 o8, .int .i64 o9, .slice ua uq uc] 33)).alloc (.cells zeroOp 33) = w1 := ⟨_, rfl⟩
    obtain ⟨B, hB⟩ : ∃ B, w.heap.size = B := ⟨_, rfl⟩
    have HB := Lib.hid hB
    have hb1 : Below B w w1 := by rw [← hw1]; exact ((Below.refl _ _).alloc (Nat.le_of_eq hB.symm) _).alloc (by simp; omega) _
    have hs1 : w1.heap.size = B + 2 := by rw [← hw1]; simp; omega
    have x1 : Bop w1 B ⟨16, o1, o2, o3, o4, o5, o6, o7, o8, o9, .slice ua uq uc⟩ := by
      unfold Bop
      rw [← hw1, ← hB]
      exact (Below.heap_alloc _ _ _ (by simp)).trans (heap_alloc_new _ _)
    have x2 : Rowq w1 (B + 1) zeroOp := by
      have := heap_alloc_new (w.alloc (.cells #[.int .i64 16, .int .i64 o1, .int .i64 o2, .int .i64 o3, .string (str o4), .string (str o5), .string (str o6), .int .i64 o7, .int .i64 o8, .int .i64 o9, .slice ua uq uc] 33)) (.cells zeroOp 33)
      rw [World.size_alloc, hB, hw1] at this
      exact ⟨this, rfl⟩
    have s := Lib.hid (strClone_any (.slice ua uq uc) k w1 (HK.out.below (by rw [hB]; exact hb1)) (by rw [HKq.out]; exact hlen))
    have X1 := Lib.hid x1
    have X2 := Lib.hid x2
    have hb1 := Lib.hid hb1
    clear x1 x2
    simp only [Op11.put]
    go_enter Tryd.func20, Tryd.ntmps20
    go_wp2_with fail
    rw [show ((w.alloc (.cells #[.int .i64 16, .int .i64 o1, .int .i64 o2, .int .i64 o3, .string (str o4), .string (str o5), .string (str o6), .int .i64 o7, .int .i64 o8, .int .i64 o9, .slice ua uq uc] 33)).alloc (.cells #[.int .i64 0, .int .i64 0, .int .i64 0, .int .i64 0, .string ⟨#[]⟩, .string ⟨#[]⟩, .string ⟨#[]⟩, .int .i64 0, .int .i64 0, .int .i64 0, .slice none 0 0] 33)) = w1 from hw1]
    clear hw1
    refine s.out.mono ?_
    rintro e w2 ⟨v', rfl, hown, hb2⟩
    rw [HKq.out, hs1] at hown
    obtain ⟨a', c', rfl, hsh⟩ := own_strs hown
    have HSH := Lib.hid hsh
    have Y1 := Lib.hid (X1.out.later hb2)
    have Y2 := Lib.hid (X2.out.later hb2)
    have hb2' : Hid (Below B w w2) := hb1.out.trans (hb2.mono (by omega))
    have p10 := Y1.out.at.c10
    have f10 := Y1.out.frozen 10
    have Z1 := Lib.hid (Y1.out.set10 (.slice a' uq c'))
    have Z2 := Lib.hid (Y2.out.far (a := ⟨B, 10, none⟩) (by simp) (.slice a' uq c'))
    have ZO := Lib.hid (ownsRow_setCell_below hown (a := ⟨B, 10, none⟩) (by simp) (.slice a' uq c'))
    have ZB := Lib.hid (hb2'.out.setCell (p := ⟨B, 10, none⟩) (by simp) (.slice a' uq c'))
    have t10 := Z1.out.at.c10
    simp only [Op11.put] at Z1 t10
    clear hown hsh hb2 hb2' X1 X2 hb1 Y1 Y2 s hs1 HK
    go_wp2_with fail
    clear p10 f10 t10
    go_loopw [19] (fun i wr => ∃ j : Nat, j ≤ uq ∧ i = .int .i64 j ∧ Hid (Bop wr B ⟨16, o1, o2, o3, o4, o5, o6, o7, o8, o9, .slice a' uq c'⟩) ∧ Hid (Rowq wr (B + 1) zeroOp) ∧ Hid (wr.ownsRow (B + 2) 9 1 (.slice a' uq c') uq (strCells (L.kept (fun a => L.leq us a level) k j))) ∧ Hid (Below B w wr)) (fun i _ => uq - (intOf i).toNat)
    case atStart => exact ⟨0, by omega, rfl, Z1, Z2, ZO, ZB⟩
    case round =>
      clear Z1 Z2 ZO ZB
      obtain ⟨j, hj, rfl, HBx, HZx, HOx, hbx⟩ := hrel
      by_cases hjn : j < uq
      · have hjI : (j : Int) < (uq : Int) := by omega
        have hj0 : (0 : Int) ≤ (j : Int) := by omega
        obtain ⟨g, rfl, hg⟩ := HSH.out (by omega)
        have s := Lib.hid (HQ.out wr (by rw [HB.out]; exact hbx.out) (j : Int))
        cases hc : L.leq us (j : Int) level with
        | true =>
          have HKy : Hid (L.kept (fun a => L.leq us a level) k (j + 1) = L.kept (fun a => L.leq us a level) k j) := L.kept_yes (by rw [HKq.out]; exact hjn) hc
          rw [hc] at s
          rw [← HKy.out] at HOx
          clear hc HKy
          go_wp2_with fail
          refine s.out.mono ?_
          rintro e w3 ⟨rfl, rfl⟩
          clear s
          go_wp2_with fail
          go_roundw
          case rel => exact ⟨j + 1, by omega, by go_num, HBx, HZx, HOx, hbx⟩
          case measure => simp [intOf]; omega
        | false =>
          have HKn : Hid (L.kept (fun a => L.leq us a level) k (j + 1) = (L.kept (fun a => L.leq us a level) k j).set j []) := L.kept_no (by rw [HKq.out]; exact hjn) hc
          rw [hc] at s
          have hst := (HOx.out.stored j (.string (str []))).1
          rw [strCells_set, ← HKn.out] at hst
          have HO2 := Lib.hid hst
          have c10 := HBx.out.at.c10
          have cj : ∃ v0, wr.cell? ⟨g, j, none⟩ = some v0 := ⟨(strCells (L.kept (fun a => L.leq us a level) k j))[j]'(by rw [strCells_length, L.kept_length, HKq.out]; exact hjn), by rw [HOx.out.cellAt _ (by omega)]; exact List.getElem?_eq_getElem _⟩
          obtain ⟨v0, cj⟩ := cj
          have fj := HOx.out.frozenAt j
          have HB2 := Lib.hid (HBx.out.far (q := ⟨g, j, none⟩) (by simp; omega) (.string (str [])))
          have HZ2 := Lib.hid (HZx.out.far (a := ⟨g, j, none⟩) (by simp; omega) (.string (str [])))
          have hb2 := Lib.hid (hbx.out.setCell (p := ⟨g, j, none⟩) (by simp; omega) (.string (str [])))
          clear hc HKn hst HOx HBx HZx hbx
          go_wp2_with fail
          refine s.out.mono ?_
          rintro e w3 ⟨rfl, rfl⟩
          clear s
          go_wp2_with fail
          go_roundw
          case rel => exact ⟨j + 1, by omega, by go_num, HB2, HZ2, HO2, hb2⟩
          case measure => simp [intOf]; omega
      · obtain rfl : j = uq := by omega
        rw [show L.kept (fun a => L.leq us a level) k j = L.keeps (fun a => L.leq us a level) k by rw [← HKq.out]; exact L.kept_end _ _] at HOx
        have s := Lib.hid (HQ.out wr (by rw [HB.out]; exact hbx.out) o1)
        have HN : Hid (k.length = j) := HKq
        have c1 := HBx.out.at.c1
        cases hc : L.leq us o1 level with
        | true =>
          have HTR : Hid (L.trim (fun a => L.leq us a level) ⟨16, o1, o2, o3, o4, o5, o6, o7, o8, o9, k⟩ = ⟨16, o1, o2, o3, o4, o5, o6, o7, o8, o9, L.keeps (fun a => L.leq us a level) k⟩) := by unfold Hid; rw [HTRg.out, hc]; rfl
          rw [hc] at s
          clear hc HTRg HSH
          go_wp2_with fail
          refine s.out.mono ?_
          rintro e w3 ⟨rfl, rfl⟩
          clear s c1
          obtain ⟨⟨⟨z0, a0⟩, b0⟩, ⟨⟨z1, a1⟩, b1⟩, ⟨⟨z2, a2⟩, b2⟩, ⟨⟨z3, a3⟩, b3⟩, ⟨⟨z4, a4⟩, b4⟩, ⟨⟨z5, a5⟩, b5⟩, ⟨⟨z6, a6⟩, b6⟩, ⟨⟨z7, a7⟩, b7⟩, ⟨⟨z8, a8⟩, b8⟩, ⟨⟨z9, a9⟩, b9⟩, ⟨⟨z10, a10⟩, b10⟩, hq11⟩ := HZx.out.all ⟨16, o1, o2, o3, o4, o5, o6, o7, o8, o9, .slice a' j c'⟩
          have HQ11 := Lib.hid hq11
          have HO11 := Lib.hid (own_opw HOx.out (by omega : B + 1 < B + 2) ⟨16, o1, o2, o3, o4, o5, o6, o7, o8, o9, .slice a' j c'⟩)
          have hb11 := Lib.hid (below_opw hbx.out (by omega : B ≤ B + 1) ⟨16, o1, o2, o3, o4, o5, o6, o7, o8, o9, .slice a' j c'⟩)
          obtain ⟨p0, p1, p2, p3, p4, p5, p6, p7, p8, p9, p10⟩ := HBx.out.at
          clear HZx HOx hbx HBx hq11
          go_wp2_with fail
          refine bodyPost_ret (trim_results _ _ (B + 1) ⟨16, o1, o2, o3, o4, o5, o6, o7, o8, o9, .slice a' j c'⟩ rfl HQ11.out) rfl ?_
          exact ⟨.slice a' j c', by rw [HTR.out], .inr (by rw [HB.out, HTR.out]; exact ownsRow.base (by simpa [L.keeps_length, HN.out] using HO11.out) (by omega)), by rw [HB.out]; exact hb11.out⟩
        | false =>
          have HTR : Hid (L.trim (fun a => L.leq us a level) ⟨16, o1, o2, o3, o4, o5, o6, o7, o8, o9, k⟩ = ⟨16, 0, 0, o3, o4, o5, o6, o7, o8, 0, L.keeps (fun a => L.leq us a level) k⟩) := by unfold Hid; rw [HTRg.out, hc]; rfl
          rw [hc] at s
          clear hc HTRg HSH
          go_wp2_with fail
          refine s.out.mono ?_
          rintro e w3 ⟨rfl, rfl⟩
          clear s c1
          have HB1 := Lib.hid (HBx.out.set1 0)
          have HB2 := Lib.hid (HB1.out.set2 0)
          have HB3 := Lib.hid (HB2.out.set9 0)
          have g1 := HBx.out.at.c1
          have g2 := HB1.out.at.c2
          have g9 := HB2.out.at.c9
          have h1 := HBx.out.frozen 1
          have h2 := HB1.out.frozen 2
          have h9 := HB2.out.frozen 9
          simp only [] at HB1 HB2 HB3 g2 g9
          have HZx := Lib.hid (((HZx.out.far (a := ⟨B, 1, none⟩) (by simp) (.int .i64 0)).far (a := ⟨B, 2, none⟩) (by simp) (.int .i64 0)).far (a := ⟨B, 9, none⟩) (by simp) (.int .i64 0))
          have HOx := Lib.hid (ownsRow_setCell_below (ownsRow_setCell_below (ownsRow_setCell_below HOx.out (a := ⟨B, 1, none⟩) (by simp) (.int .i64 0)) (a := ⟨B, 2, none⟩) (by simp) (.int .i64 0)) (a := ⟨B, 9, none⟩) (by simp) (.int .i64 0))
          have hbx := Lib.hid (((hbx.out.setCell (p := ⟨B, 1, none⟩) (by simp) (.int .i64 0)).setCell (p := ⟨B, 2, none⟩) (by simp) (.int .i64 0)).setCell (p := ⟨B, 9, none⟩) (by simp) (.int .i64 0))
          have HBx := HB3
          clear HB1 HB2 HB3
          obtain ⟨⟨⟨z0, a0⟩, b0⟩, ⟨⟨z1, a1⟩, b1⟩, ⟨⟨z2, a2⟩, b2⟩, ⟨⟨z3, a3⟩, b3⟩, ⟨⟨z4, a4⟩, b4⟩, ⟨⟨z5, a5⟩, b5⟩, ⟨⟨z6, a6⟩, b6⟩, ⟨⟨z7, a7⟩, b7⟩, ⟨⟨z8, a8⟩, b8⟩, ⟨⟨z9, a9⟩, b9⟩, ⟨⟨z10, a10⟩, b10⟩, hq11⟩ := HZx.out.all ⟨16, 0, 0, o3, o4, o5, o6, o7, o8, 0, .slice a' j c'⟩
          have HQ11 := Lib.hid hq11
          have HO11 := Lib.hid (own_opw HOx.out (by omega : B + 1 < B + 2) ⟨16, 0, 0, o3, o4, o5, o6, o7, o8, 0, .slice a' j c'⟩)
          have hb11 := Lib.hid (below_opw hbx.out (by omega : B ≤ B + 1) ⟨16, 0, 0, o3, o4, o5, o6, o7, o8, 0, .slice a' j c'⟩)
          obtain ⟨p0, p1, p2, p3, p4, p5, p6, p7, p8, p9, p10⟩ := HBx.out.at
          clear HZx HOx hbx HBx hq11
          go_wp2_with fail
          refine bodyPost_ret (trim_results _ _ (B + 1) ⟨16, 0, 0, o3, o4, o5, o6, o7, o8, 0, .slice a' j c'⟩ rfl HQ11.out) rfl ?_
          exact ⟨.slice a' j c', by rw [HTR.out], .inr (by rw [HB.out, HTR.out]; exact ownsRow.base (by simpa [L.keeps_length, HN.out] using HO11.out) (by omega)), by rw [HB.out]; exact hb11.out⟩
  · have HT := Lib.hid (L.trim_kept (p := (fun a => L.leq us a level)) h16)
    obtain ⟨o0, o1, o2, o3, o4, o5, o6, o7, o8, o9, k⟩ := o
    simp only [] at h16 hlen
    have d0 : (o0 != 16) = true := by simp [h16]
    generalize hq : k.length = uq at *
    have hb : Below w.heap.size w ((w.alloc (.cells #[.int .i64 o0, .int .i64 o1, .int .i64 o2, .int .i64 o3, .string (str o4), .string (str o5), .string (str o6), .int .i64 o7, .int .i64 o8, .int .i64 o9, .slice ua uq uc] 33)).alloc (.cells #[.int .i64 o0, .int .i64 o1, .int .i64 o2, .int .i64 o3, .string (str o4), .string (str o5), .string (str o6), .int .i64 o7, .int .i64 o8, .int .i64 o9, .slice ua uq uc] 33)) := ((Below.refl _ _).alloc (Nat.le_refl _) _).alloc (by simp) _
    have hr : Bop ((w.alloc (.cells #[.int .i64 o0, .int .i64 o1, .int .i64 o2, .int .i64 o3, .string (str o4), .string (str o5), .string (str o6), .int .i64 o7, .int .i64 o8, .int .i64 o9, .slice ua uq uc] 33)).alloc (.cells #[.int .i64 o0, .int .i64 o1, .int .i64 o2, .int .i64 o3, .string (str o4), .string (str o5), .string (str o6), .int .i64 o7, .int .i64 o8, .int .i64 o9, .slice ua uq uc] 33)) (w.heap.size + 1) ⟨o0, o1, o2, o3, o4, o5, o6, o7, o8, o9, .slice ua uq uc⟩ := by
      have := heap_alloc_new (w.alloc (.cells #[.int .i64 o0, .int .i64 o1, .int .i64 o2, .int .i64 o3, .string (str o4), .string (str o5), .string (str o6), .int .i64 o7, .int .i64 o8, .int .i64 o9, .slice ua uq uc] 33)) (.cells #[.int .i64 o0, .int .i64 o1, .int .i64 o2, .int .i64 o3, .string (str o4), .string (str o5), .string (str o6), .int .i64 o7, .int .i64 o8, .int .i64 o9, .slice ua uq uc] 33)
      rw [World.size_alloc] at this
      exact this
    have HR := Lib.hid hr
    clear HQ HK h16 hq hr
    go_enter Tryd.func20, Tryd.ntmps20
    simp only [Op11.put]
    go_wp2_with fail
    refine bodyPost_ret (trim_results _ _ (w.heap.size + 1) ⟨o0, o1, o2, o3, o4, o5, o6, o7, o8, o9, .slice ua uq uc⟩ rfl HR.out) rfl ?_
    exact ⟨.slice ua uq uc, by rw [HT.out], .inl ⟨rfl, by rw [HT.out]⟩, hb⟩
end Go.Proofs.YtmapmeacjpoaoaaDoor
namespace Go.Proofs.YtmapmeacjpoaoaaDoor
open Go Go.RowKit

namespace L
theorem pick_length (p : Int → Bool) (o : Opr) : (pick p o).length ≤ 1 := by unfold pick; split <;> simp
end L
/-- The few operations, each with few texts. -/
def Few (l : List Opr) : Prop := ∀ o ∈ l, o.keep.length ≤ 1000
theorem op_one {r : Rop} (h : ∃ a n c, r.keep = .slice a n c) : ∀ u ∈ opCells [r], u.oneCell' = true := op_oneCell fun r' hr => by rw [List.mem_singleton.1 hr]; exact h

end Go.Proofs.YtmapmeacjpoaoaaDoor
namespace Go.Proofs.YtmapmeacjpoaoaaDoor.L

def bit (us : List Nat) (a b : Nat) : Bool := (us.getD a 0).testBit b
def edge (us : List Nat) (a b : Nat) : Prop := a < us.length ∧ b < us.length ∧ bit us a b = true
inductive Reach (us : List Nat) : Nat → Nat → Prop
  | refl (a : Nat) (h : a < us.length) : Reach us a a
  | step {a b c : Nat} (h : Reach us a b) (e : edge us b c) : Reach us a c
theorem Reach.left {us : List Nat} {a b : Nat} (h : Reach us a b) : a < us.length := by
  induction h with
  | refl h => exact h
  | step _ _ ih => exact ih
theorem Reach.right {us : List Nat} {a b : Nat} (h : Reach us a b) : b < us.length := by
  cases h with
  | refl h => exact h
  | step _ e => exact e.2.1
theorem Reach.trans {us : List Nat} {a b c : Nat} (h : Reach us a b) (k : Reach us b c) : Reach us a c := by
  induction k with
  | refl => exact h
  | step _ e ih => exact .step ih e

/-- ms is the closure of us. -/
structure IsClosure (us ms : List Nat) : Prop where
  length : ms.length = us.length
  small : ∀ a, a < us.length → ms.getD a 0 < 2 ^ us.length
  bits : ∀ a b, a < us.length → b < us.length → (bit ms a b = true ↔ Reach us a b)
noncomputable def close (us : List Nat) : List Nat := (List.range us.length).map fun (a : Nat) => ofBits us.length fun b => @decide (Reach us a b) (Classical.propDecidable _)

theorem ext_getD {ms ns : List Nat} (h : ms.length = ns.length) (hg : ∀ a, a < ms.length → ms.getD a 0 = ns.getD a 0) : ms = ns := by
  refine List.ext_getElem h fun i h1 h2 => ?_
  have := hg i h1
  rwa [List.getD_eq_getElem?_getD, List.getD_eq_getElem?_getD, List.getElem?_eq_getElem h1, List.getElem?_eq_getElem h2] at this
theorem IsClosure.unique {us ms ns : List Nat} (h : IsClosure us ms) (k : IsClosure us ns) : ms = ns := by
  refine ext_getD (h.length.trans k.length.symm) fun a ha => ?_
  rw [h.length] at ha
  apply Nat.eq_of_testBit_eq
  intro b
  by_cases hb : b < us.length
  · have := (h.bits a b ha hb).trans (k.bits a b ha hb).symm
    exact Bool.eq_iff_iff.2 this
  · have hp : 2 ^ us.length ≤ 2 ^ b := Nat.pow_le_pow_right (by decide) (Nat.not_lt.1 hb)
    rw [Nat.testBit_lt_two_pow (Nat.lt_of_lt_of_le (h.small a ha) hp), Nat.testBit_lt_two_pow (Nat.lt_of_lt_of_le (k.small a ha) hp)]
theorem close_length (us : List Nat) : (close us).length = us.length := by simp [close]
theorem close_getD {us : List Nat} {a : Nat} (ha : a < us.length) : (close us).getD a 0 = ofBits us.length fun b => @decide (Reach us a b) (Classical.propDecidable _) := by
  rw [close, List.getD_eq_getElem?_getD, List.getElem?_map, List.getElem?_range ha]
  rfl
theorem close_is (us : List Nat) : IsClosure us (close us) := by
  refine ⟨close_length us, fun a ha => ?_, fun a b ha hb => ?_⟩
  · rw [close_getD ha]; exact ofBits_lt _ _
  · unfold bit
    rw [close_getD ha, testBit_ofBits]
    simp [hb]
theorem IsClosure.eq {us ms : List Nat} (h : IsClosure us ms) : ms = close us := h.unique (close_is us)

/-- Between the start and the closure. -/
structure Mid (us ms : List Nat) : Prop where
  length : ms.length = us.length
  small : ∀ a, a < us.length → ms.getD a 0 < 2 ^ us.length
  sound : ∀ a b, a < us.length → b < us.length → bit ms a b = true → Reach us a b
  same : ∀ a, a < us.length → bit ms a a = true
  edges : ∀ a b, edge us a b → bit ms a b = true
/-- Rows that are nothing new, and closed in themselves, are the closure. -/
theorem Mid.closed {us ms : List Nat} (h : Mid us ms) (ht : ∀ a b c, a < us.length → b < us.length → c < us.length → bit ms a b = true → bit ms b c = true → bit ms a c = true) : IsClosure us ms := by
  refine ⟨h.length, h.small, fun a b ha hb => ⟨h.sound a b ha hb, fun hr => ?_⟩⟩
  induction hr with
  | refl => exact h.same a ha
  | step hr' e ih => exact ht _ _ _ ha e.1 e.2.1 (ih e.1) (h.edges _ _ e)

end Go.Proofs.YtmapmeacjpoaoaaDoor.L
namespace Go.Proofs.YtmapmeacjpoaoaaDoor.L

def pairFine (us : List Nat) (a b : Nat) : Bool := !((leq us a b && leq us b a) || decide (join us a b < 0) || decide (meet us a b < 0))
def pairs (us : List Nat) : Bool := (List.range us.length).all fun a => (List.range a).all fun b => pairFine us a b
theorem pairs_true {us : List Nat} (h : ∀ a b, a < us.length → b < a → pairFine us a b = true) : pairs us = true := by
  unfold pairs
  rw [List.all_eq_true]
  intro a ha
  rw [List.all_eq_true]
  intro b hb
  exact h a b (List.mem_range.1 ha) (List.mem_range.1 hb)
theorem pairs_at {us : List Nat} (h : pairs us = true) {a b : Nat} (ha : a < us.length) (hb : b < a) : pairFine us a b = true := by
  unfold pairs at h
  rw [List.all_eq_true] at h
  have := h a (List.mem_range.2 ha)
  rw [List.all_eq_true] at this
  exact this b (List.mem_range.2 hb)
noncomputable def closeOr (us : List Nat) : List Nat := if us.length ≤ 64 then close us else []
theorem closeOr_short {us : List Nat} (h : us.length ≤ 64) : closeOr us = close us := if_pos h
noncomputable def check (us : List Nat) : Bool := decide (1 ≤ us.length) && decide (us.length ≤ 64) && (closeOr us == us) && pairs us
theorem check_size {us : List Nat} (h : ¬ (1 ≤ us.length ∧ us.length ≤ 64)) : check us = false := by
  unfold check
  by_cases h1 : 1 ≤ us.length
  · have h2 : ¬ us.length ≤ 64 := fun h2 => h ⟨h1, h2⟩
    simp [h2]
  · simp [h1]
theorem check_of {us : List Nat} (h1 : 1 ≤ us.length) (h2 : us.length ≤ 64) : check us = ((closeOr us == us) && pairs us) := by
  simp [check, h1, h2]

/-- Each flows to itself, and on; and no bits but labels'. -/
structure Order (us : List Nat) : Prop where
  small : ∀ a, a < us.length → us.getD a 0 < 2 ^ us.length
  same : ∀ a, a < us.length → bit us a a = true
  trans : ∀ a b c, a < us.length → b < us.length → c < us.length → bit us a b = true → bit us b c = true → bit us a c = true
theorem close_self {us : List Nat} : close us = us ↔ Order us := by
  constructor
  · intro h
    have hi := close_is us
    rw [h] at hi
    exact ⟨hi.small, fun a ha => (hi.bits a a ha ha).2 (.refl a ha), fun a b c ha hb hc h1 h2 => (hi.bits a c ha hc).2 (((hi.bits a b ha hb).1 h1).trans ((hi.bits b c hb hc).1 h2))⟩
  · intro h
    have hm : Mid us us := ⟨rfl, h.small, fun a b ha hb hx => .step (.refl a ha) ⟨ha, hb, hx⟩, h.same, fun a b e => e.2.2⟩
    exact (IsClosure.eq (hm.closed h.trans)).symm
/-- A lattice. -/
structure Lat (us : List Nat) : Prop where
  some : 1 ≤ us.length
  few : us.length ≤ 64
  order : Order us
  anti : ∀ a b, a < us.length → b < us.length → bit us a b = true → bit us b a = true → a = b
  join : ∀ a b, a < us.length → b < a → 0 ≤ join us a b
  meet : ∀ a b, a < us.length → b < a → 0 ≤ meet us a b
theorem leq_bit {us : List Nat} (h64 : us.length ≤ 64) {a b : Nat} (ha : a < us.length) (hb : b < us.length) : leq us a b = bit us a b := by
  unfold leq bit
  rw [lab_nat h64, lab_nat h64]
  simp [ha, hb]
theorem check_iff {us : List Nat} : check us = true ↔ Lat us := by
  constructor
  · intro h
    have h1 : 1 ≤ us.length ∧ us.length ≤ 64 := by
      by_cases hx : 1 ≤ us.length ∧ us.length ≤ 64
      · exact hx
      · rw [check_size hx] at h; cases h
    obtain ⟨h1, h2⟩ := h1
    rw [check_of h1 h2, Bool.and_eq_true, beq_iff_eq, closeOr_short h2, close_self] at h
    obtain ⟨ho, hp⟩ := h
    have hpf : ∀ a b, a < us.length → b < a → (bit us a b && bit us b a) = false ∧ 0 ≤ L.join us a b ∧ 0 ≤ L.meet us a b := fun a b ha hb => by
      have := pairs_at hp ha hb
      unfold pairFine at this
      rw [leq_bit h2 ha (by omega), leq_bit h2 (by omega) ha] at this
      simp only [Bool.not_eq_true', Bool.or_eq_false_iff, decide_eq_false_iff_not, Int.not_lt] at this
      exact ⟨this.1.1, this.1.2, this.2⟩
    refine ⟨h1, h2, ho, fun a b ha hb hx hy => ?_, fun a b ha hb => (hpf a b ha hb).2.1, fun a b ha hb => (hpf a b ha hb).2.2⟩
    rcases Nat.lt_trichotomy a b with hlt | rfl | hlt
    · have := (hpf b a hb hlt).1
      rw [hx, hy] at this; cases this
    · rfl
    · have := (hpf a b ha hlt).1
      rw [hx, hy] at this; cases this
  · intro h
    rw [check_of h.some h.few, Bool.and_eq_true, beq_iff_eq, closeOr_short h.few, close_self]
    refine ⟨h.order, pairs_true fun a b ha hb => ?_⟩
    have h1 : (bit us a b && bit us b a) = false := by
      cases hx : bit us a b with
      | false => rfl
      | true =>
        cases hy : bit us b a with
        | false => rfl
        | true => have := h.anti a b ha (by omega) hx hy; omega
    unfold pairFine
    rw [leq_bit h.few ha (by omega), leq_bit h.few (by omega) ha, h1]
    have h2 := h.join a b ha hb
    have h3 := h.meet a b ha hb
    simp [h2, h3]

/-- What the reference asks of a row's bit, and of what it leads to. -/
def rowFine (us : List Nat) (a b : Nat) : Bool := !((bit us a b && decide (us.length ≤ b)) || ((a == b) && !bit us a b) || (bit us a b && !(a == b) && bit us b a))
def onFine (us : List Nat) (a b c : Nat) : Bool := !bit us a b || !bit us b c || bit us a c
def bounded (us : List Nat) (a b : Nat) : Bool := !(decide (join us a b < 0) || decide (meet us a b < 0))
/-- What makes the reference say yes, and what makes it say no. -/
theorem check_yes {us : List Nat} (hu : ∀ a, us.getD a 0 < 2 ^ 64) (h1 : 1 ≤ us.length) (h2 : us.length ≤ 64) (hr : ∀ a b, a < us.length → b < 64 → rowFine us a b = true)
    (ho : ∀ a b c, a < us.length → b < 64 → c < us.length → onFine us a b c = true) (hb : ∀ a b, a < us.length → b < a → bounded us a b = true) : check us = true := by
  have hrow : ∀ a b, a < us.length → b < 64 → (bit us a b = true → b < us.length) ∧ (a = b → bit us a b = true) ∧ (bit us a b = true → a ≠ b → bit us b a = false) := fun a b ha hb64 => by
    have := hr a b ha hb64
    unfold rowFine at this
    simp only [Bool.not_eq_true', Bool.or_eq_false_iff] at this
    obtain ⟨⟨q1, q2⟩, q3⟩ := this
    refine ⟨fun hx => ?_, fun e => ?_, fun hx e => ?_⟩
    · rw [hx, Bool.true_and, decide_eq_false_iff_not] at q1; omega
    · subst e; simpa using q2
    · have e' : (a == b) = false := by simp [e]
      rw [hx, e'] at q3; simpa using q3
  refine check_iff.2 ⟨h1, h2, ⟨fun a ha => ?_, fun a ha => (hrow a a ha (by omega)).2.1 rfl, fun a b c ha hb' hc hx hy => ?_⟩, fun a b ha hb' hx hy => ?_, fun a b ha hb' => ?_, fun a b ha hb' => ?_⟩
  · refine Nat.lt_pow_two_of_testBit _ fun i hi => ?_
    by_cases hi64 : i < 64
    · cases hx : (us.getD a 0).testBit i with
      | false => rfl
      | true => have := (hrow a i ha hi64).1 hx; omega
    · exact Nat.testBit_lt_two_pow (Nat.lt_of_lt_of_le (hu a) (Nat.pow_le_pow_right (by decide) (by omega)))
  · have := ho a b c ha (by omega) hc
    unfold onFine at this
    rw [hx, hy] at this; simpa using this
  · by_cases e : a = b
    · exact e
    · have := (hrow a b ha (by omega)).2.2 hx e
      rw [hy] at this; cases this
  · have := hb a b ha hb'
    unfold bounded at this
    simp only [Bool.not_eq_true', Bool.or_eq_false_iff, decide_eq_false_iff_not, Int.not_lt] at this
    exact this.1
  · have := hb a b ha hb'
    unfold bounded at this
    simp only [Bool.not_eq_true', Bool.or_eq_false_iff, decide_eq_false_iff_not, Int.not_lt] at this
    exact this.2
theorem not_lat {us : List Nat} (h : ¬ Lat us) : check us = false := by
  cases hc : check us with
  | false => rfl
  | true => exact absurd (check_iff.1 hc) h
theorem check_no_row {us : List Nat} {a b : Nat} (ha : a < us.length) (h : rowFine us a b = false) : check us = false := not_lat fun hl => by
  unfold rowFine at h
  simp only [Bool.not_eq_false', Bool.or_eq_true, Bool.and_eq_true, decide_eq_true_eq, beq_iff_eq, Bool.not_eq_true', beq_eq_false_iff_ne] at h
  rcases h with (⟨h1, h2⟩ | ⟨rfl, h2⟩) | ⟨⟨h1, h2⟩, h3⟩
  · unfold bit at h1
    rw [Nat.testBit_lt_two_pow (Nat.lt_of_lt_of_le (hl.order.small a ha) (Nat.pow_le_pow_right (by decide) h2))] at h1
    cases h1
  · rw [hl.order.same a ha] at h2; cases h2
  · have hb : b < us.length := by
      rcases Nat.lt_or_ge b us.length with hb | hb
      · exact hb
      · unfold bit at h1
        rw [Nat.testBit_lt_two_pow (Nat.lt_of_lt_of_le (hl.order.small a ha) (Nat.pow_le_pow_right (by decide) hb))] at h1
        cases h1
    exact h2 (hl.anti a b ha hb h1 h3)
theorem check_no_on {us : List Nat} {a b c : Nat} (ha : a < us.length) (hc : c < us.length) (h : onFine us a b c = false) : check us = false := not_lat fun hl => by
  unfold onFine at h
  simp only [Bool.or_eq_false_iff, Bool.not_eq_false'] at h
  obtain ⟨⟨h1, h2⟩, h3⟩ := h
  have hb : b < us.length := by
    rcases Nat.lt_or_ge b us.length with hb | hb
    · exact hb
    · unfold bit at h1
      rw [Nat.testBit_lt_two_pow (Nat.lt_of_lt_of_le (hl.order.small a ha) (Nat.pow_le_pow_right (by decide) hb))] at h1
      cases h1
  rw [hl.order.trans a b c ha hb hc h1 h2] at h3; cases h3
theorem check_no_bound {us : List Nat} {a b : Nat} (ha : a < us.length) (hb : b < a) (h : bounded us a b = false) : check us = false := not_lat fun hl => by
  unfold bounded at h
  simp only [Bool.not_eq_false', Bool.or_eq_true, decide_eq_true_eq] at h
  have h1 := hl.join a b ha hb
  have h2 := hl.meet a b ha hb
  omega
end Go.Proofs.YtmapmeacjpoaoaaDoor.L
