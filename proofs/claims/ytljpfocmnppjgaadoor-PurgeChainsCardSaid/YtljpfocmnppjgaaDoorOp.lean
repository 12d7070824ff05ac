/- Operations of the store as values, and slices of them. -/
import Derived.Test.YtljpfocmnppjgaaDoorLat2
import Derived.Test.YtljpfocmnppjgaaDoorGr3
namespace Go.Proofs.YtljpfocmnppjgaaDoor
open Go Go.RowKit

/-- An operation: its numbers, its texts, and what it keeps. -/
structure Op11 (κ : Type) where
  kind : Int
  level : Int
  ses : Int
  snap : Int
  bucket : List UInt8
  key : List UInt8
  val : List UInt8
  label : Int
  to : Int
  n : Int
  keep : κ
/-- As it lies in memory, and as it reads. -/
abbrev Rop : Type := Op11 Value
abbrev Opr : Type := Op11 (List (List UInt8))
def Op11.put {κ μ : Type} (o : Op11 κ) (u : μ) : Op11 μ := ⟨o.kind, o.level, o.ses, o.snap, o.bucket, o.key, o.val, o.label, o.to, o.n, u⟩
def Op11.cs (r : Rop) : List Value := [.int .i64 r.kind, .int .i64 r.level, .int .i64 r.ses, .int .i64 r.snap, .string (str r.bucket), .string (str r.key), .string (str r.val), .int .i64 r.label, .int .i64 r.to, .int .i64 r.n, r.keep]
abbrev opv (r : Rop) : Value := .agg #[.int .i64 r.kind, .int .i64 r.level, .int .i64 r.ses, .int .i64 r.snap, .string (str r.bucket), .string (str r.key), .string (str r.val), .int .i64 r.label, .int .i64 r.to, .int .i64 r.n, r.keep]
def opCells (l : List Rop) : List Value := l.flatMap Op11.cs
theorem opCells_cons (r : Rop) (l : List Rop) : opCells (r :: l) = r.cs ++ opCells l := rfl
theorem opCells_length : ∀ l : List Rop, (opCells l).length = l.length * 11
  | [] => rfl
  | r :: l => by rw [opCells_cons, List.length_append, opCells_length l, List.length_cons]; simp [Op11.cs]; omega
theorem opCells_append (l m : List Rop) : opCells (l ++ m) = opCells l ++ opCells m := by simp [opCells]
theorem opCells_take : ∀ (l : List Rop) (k : Nat), (opCells l).take (k * 11) = opCells (l.take k)
  | _, 0 => by simp [opCells]
  | [], k + 1 => by simp [opCells]
  | r :: l, k + 1 => by
    rw [opCells_cons, List.take_succ_cons, opCells_cons, ← opCells_take l k]
    have e : (k + 1) * 11 = r.cs.length + k * 11 := by simp [Op11.cs]; omega
    rw [e, List.take_append, List.take_of_length_le (by omega), Nat.add_sub_cancel_left]
theorem opCells_at : ∀ (l : List Rop) (i : Nat) (hi : i < l.length) (j : Nat) (_ : j < 11), (opCells l)[i * 11 + j]? = l[i].cs[j]?
  | [], i, hi, _, _ => by simp at hi
  | r :: l, 0, _, j, hj => by
    rw [opCells_cons, Nat.zero_mul, Nat.zero_add, List.getElem?_append_left (by simp [Op11.cs]; omega)]
    rfl
  | r :: l, i + 1, hi, j, hj => by
    rw [opCells_cons, List.getElem?_append_right (by simp [Op11.cs]; omega)]
    have e : (i + 1) * 11 + j - r.cs.length = i * 11 + j := by simp [Op11.cs]; omega
    rw [e, opCells_at l i (by simpa using hi) j hj]
    rfl
theorem op_oneCell {us : List Rop} (h : ∀ r ∈ us, ∃ a n c, r.keep = .slice a n c) : ∀ u ∈ opCells us, u.oneCell' = true := by
  intro u hu
  obtain ⟨r, hr, h2⟩ := List.mem_flatMap.1 hu
  obtain ⟨a, n, c, e⟩ := h r hr
  simp only [Op11.cs, List.mem_cons, List.not_mem_nil, or_false] at h2
  rcases h2 with rfl | rfl | rfl | rfl | rfl | rfl | rfl | rfl | rfl | rfl | rfl
  all_goals first | rfl | (rw [e]; rfl)

/-- Texts as cells. -/
def strCells (l : List (List UInt8)) : List Value := l.map fun s => .string (str s)
theorem strCells_length (l : List (List UInt8)) : (strCells l).length = l.length := by simp [strCells]
theorem str_oneCell (l : List (List UInt8)) : ∀ u ∈ strCells l, u.oneCell' = true := by
  intro u hu
  obtain ⟨_, _, rfl⟩ := List.mem_map.1 hu
  rfl
/-- The slice value v reads as the texts l. -/
def Ks (w : World) (v : Value) (l : List (List UInt8)) : Prop := Sl w 1 l.length v (strCells l)
theorem Ks.below {w w' : World} {v : Value} {l : List (List UInt8)} (h : Ks w v l) (hb : Below w.heap.size w w') : Ks w' v l := Sl.below h hb
theorem Ks.nil (w : World) : Ks w (.slice none 0 0) [] := Sl.nil w 1
theorem Ks.shape {w : World} {v : Value} {l : List (List UInt8)} (h : Ks w v l) : ∃ ao cap, v = .slice ao l.length cap ∧ l.length ≤ cap := Sl.shape h
theorem Ks.len {w : World} {v : Value} {l : List (List UInt8)} (h : Ks w v l) : l.length ≤ 9223372036854775807 := by
  obtain ⟨_, ao, cap, _, h1, h2, _⟩ := h
  unfold maxLen at h2
  omega
theorem Ks.of_owns {w : World} {base e n : Nat} {v : Value} {l : List (List UInt8)} (h : w.ownsRow base e 1 v n (strCells l)) : Ks w v l := by
  have := Sl.of_owns h
  have e : n = l.length := by have h1 := h.1; rw [strCells_length] at h1; omega
  subst e
  exact this
theorem Ks.at {w : World} {ao : Option Addr} {n cap : Nat} {l : List (List UInt8)} (h : Ks w (.slice ao n cap) l) {j : Nat} (hj : j < l.length) :
    ∃ b off, ao = some ⟨b, off, none⟩ ∧ ∀ W, Below w.heap.size w W → ∀ i (hi : i < l.length), W.cell? ⟨b, off + i, none⟩ = some (.string (str l[i])) := by
  obtain ⟨b, off, rfl, -⟩ := Sl.at (j := j) h (by simpa [strCells] using hj)
  refine ⟨b, off, rfl, fun W hW i hi => ?_⟩
  obtain ⟨b', off', e, hc⟩ := Sl.at (j := j) (Sl.below h hW) (by simpa [strCells] using hj)
  obtain ⟨rfl, rfl⟩ : b = b' ∧ off = off' := by simpa using e
  have := hc i (by simpa [strCells] using hi)
  rw [this]
  simp [strCells]

/-- Eleven cells in a row. -/
structure OpAt (W : World) (b o : Nat) (r : Rop) : Prop where
  c0 : W.cell? ⟨b, o, none⟩ = some (.int .i64 r.kind)
  c1 : W.cell? ⟨b, o + 1, none⟩ = some (.int .i64 r.level)
  c2 : W.cell? ⟨b, o + 2, none⟩ = some (.int .i64 r.ses)
  c3 : W.cell? ⟨b, o + 3, none⟩ = some (.int .i64 r.snap)
  c4 : W.cell? ⟨b, o + 4, none⟩ = some (.string (str r.bucket))
  c5 : W.cell? ⟨b, o + 5, none⟩ = some (.string (str r.key))
  c6 : W.cell? ⟨b, o + 6, none⟩ = some (.string (str r.val))
  c7 : W.cell? ⟨b, o + 7, none⟩ = some (.int .i64 r.label)
  c8 : W.cell? ⟨b, o + 8, none⟩ = some (.int .i64 r.to)
  c9 : W.cell? ⟨b, o + 9, none⟩ = some (.int .i64 r.n)
  c10 : W.cell? ⟨b, o + 10, none⟩ = some r.keep

/-- The slice value v reads as the operations l. -/
def Os (w : World) (v : Value) (l : List Opr) : Prop := ∃ us : List Value, us.length = l.length ∧ Sl w 11 l.length v (opCells (List.zipWith Op11.put l us)) ∧ ∀ i (h : i < us.length) (h2 : i < l.length), Ks w us[i] l[i].keep
theorem Os.below {w w' : World} {v : Value} {l : List Opr} (h : Os w v l) (hb : Below w.heap.size w w') : Os w' v l := by
  obtain ⟨us, h0, h1, h2⟩ := h
  exact ⟨us, h0, h1.below hb, fun i a b => (h2 i a b).below hb⟩
theorem Os.shape {w : World} {v : Value} {l : List Opr} (h : Os w v l) : ∃ ao cap, v = .slice ao l.length cap ∧ l.length ≤ cap := by
  obtain ⟨us, h0, h1, -⟩ := h
  exact h1.shape
theorem Os.len {w : World} {v : Value} {l : List Opr} (h : Os w v l) : l.length ≤ 9223372036854775807 := by
  obtain ⟨us, _, ⟨_, ao, cap, _, h1, h2, _⟩, -⟩ := h
  unfold maxLen at h2
  omega
theorem Os.nil (w : World) : Os w (.slice none 0 0) [] := ⟨[], rfl, Sl.nil w 11, fun i h => by simp at h⟩
theorem Os.at {w : World} {ao : Option Addr} {n cap : Nat} {l : List Opr} (h : Os w (.slice ao n cap) l) {j : Nat} (hj : j < l.length) :
    ∃ b off u, ao = some ⟨b, off, none⟩ ∧ Ks w u l[j].keep ∧ ∀ W, Below w.heap.size w W → OpAt W b (off + j * 11) (l[j].put u) := by
  obtain ⟨us, h0, h1, h2⟩ := h
  have hzl : (List.zipWith Op11.put l us).length = l.length := by simp [h0]
  have hcl := opCells_length (List.zipWith Op11.put l us)
  rw [hzl] at hcl
  obtain ⟨b, off, rfl, -⟩ := h1.at (j := j * 11) (by omega)
  refine ⟨b, off, us[j]'(by omega), rfl, h2 j (by omega) hj, fun W hW => ?_⟩
  obtain ⟨b', off', e, hc⟩ := (h1.below hW).at (j := j * 11) (by omega)
  obtain ⟨rfl, rfl⟩ : b = b' ∧ off = off' := by simpa using e
  have key : ∀ i (hi : i < 11), W.cell? ⟨b, off + j * 11 + i, none⟩ = (Op11.put l[j] (us[j]'(by omega))).cs[i]? := fun i hi => by
    have h3 := opCells_at (List.zipWith Op11.put l us) j (by omega) i hi
    obtain ⟨h4, h5⟩ := List.getElem?_eq_some_iff.1 (show (opCells (List.zipWith Op11.put l us))[j * 11 + i]? = some ((opCells (List.zipWith Op11.put l us))[j * 11 + i]'(by omega)) from List.getElem?_eq_getElem _)
    rw [Nat.add_assoc, hc (j * 11 + i) (by omega), ← List.getElem?_eq_getElem, h3]
    simp
  exact ⟨key 0 (by decide), key 1 (by decide), key 2 (by decide), key 3 (by decide), key 4 (by decide), key 5 (by decide), key 6 (by decide), key 7 (by decide), key 8 (by decide), key 9 (by decide), key 10 (by decide)⟩

/-- A configuration's parts. -/
abbrev cfv (vn vu vq vg : Value) : Value := .agg #[vn, vu, vq, vg]

namespace L
def inn (s : Nat) (x : Int) : Bool := decide (0 ≤ x) && (decide (x < 64) && s.testBit x.toNat)
def flows (gs : List Gr) (o : Opr) (s : Nat) : Bool := decide (o.kind = 15) && (inn s o.to && gs.contains (o.level, o.label, o.to))
end L

set_option maxHeartbeats 400000 in
theorem in_any (s : Nat) (x : Int) (hs : s < 18446744073709551616) (w : World) :
    Calls Tryd.prog 22 #[.int .u64 s, .int .i64 x] w fun e w' => e = .returned (.bool (L.inn s x)) ∧ w = w' := by
  unfold L.inn
  by_cases h0 : 0 ≤ x
  · by_cases h1 : x < 64
    · obtain ⟨k, rfl⟩ : ∃ k : Nat, x = (k : Int) := ⟨x.toNat, by omega⟩
      have hk : k < 64 := by omega
      have d0 : decide ((0 : Int) ≤ (k : Int)) = true := by simp
      have d1 : decide ((k : Int) < 64) = true := by simpa using h1
      have e1 := bit_and s k hs
      rw [d0, d1, Int.toNat_natCast]
      go_enter Tryd.func22, Tryd.ntmps22
      go_wp2_with fail
      go_ret
      exact ⟨ret_bool (by rw [Bool.true_and, Bool.true_and]; exact bit_eq s k), rfl⟩
    · have d0 : decide ((0 : Int) ≤ x) = true := by simpa using h0
      have d1 : decide (x < 64) = false := by simpa using h1
      rw [d0, d1]
      go_enter Tryd.func22, Tryd.ntmps22
      go_wp2_with fail
      go_ret
      exact ⟨rfl, rfl⟩
  · have d0 : decide ((0 : Int) ≤ x) = false := by simpa using h0
    rw [d0]
    go_enter Tryd.func22, Tryd.ntmps22
    go_wp2_with fail
    go_ret
    exact ⟨rfl, rfl⟩
end Go.Proofs.YtljpfocmnppjgaaDoor
