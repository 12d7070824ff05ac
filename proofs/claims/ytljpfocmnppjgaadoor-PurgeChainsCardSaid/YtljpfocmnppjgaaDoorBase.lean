/- Slices as lists of cells, and the world as it grows: words and lemmas for walks. No program. -/
import Derived.WalkKit
import Derived.Lib.Hide
import Derived.Laws.AppendOwnNone
import Derived.WalkSpells
import Derived.Deep.Draws
import Derived.Lib.SlBytesConst
import Derived.Deep.DeepFit
namespace Go.Proofs.YtljpfocmnppjgaaDoor
open Go Go.RowKit

/-- The slice value v of n elements of sz cells each holds the cells cs in the world w. -/
def Sl (w : World) (sz n : Nat) (v : Value) (cs : List Value) : Prop :=
  cs.length = n * sz ∧ ∃ ao cap, v = .slice ao n cap ∧ n ≤ cap ∧ cap ≤ maxLen ∧ (ao = none → cap = 0) ∧
    ∀ j (h : j < cs.length), ∃ b off, ao = some ⟨b, off, none⟩ ∧ w.cell? ⟨b, off + j, none⟩ = some cs[j]

theorem Addr.add_zero' (a : Addr) : a.add 0 = a := by cases a with | mk b o s => cases s <;> simp [Addr.add]
theorem Sl.nil (w : World) (sz : Nat) : Sl w sz 0 (.slice none 0 0) [] :=
  ⟨by simp, none, 0, rfl, Nat.le_refl _, Nat.zero_le _, fun _ => rfl, fun j h => by simp at h⟩

theorem Sl.shape {w : World} {sz n : Nat} {v : Value} {cs : List Value} (h : Sl w sz n v cs) : ∃ ao cap, v = .slice ao n cap ∧ n ≤ cap := by
  obtain ⟨_, ao, cap, rfl, h1, _⟩ := h
  exact ⟨ao, cap, rfl, h1⟩

theorem Sl.below {w w' : World} {sz n : Nat} {v : Value} {cs : List Value} (h : Sl w sz n v cs) (hb : Below w.heap.size w w') : Sl w' sz n v cs := by
  obtain ⟨h0, ao, cap, rfl, h1, h2, h3, h4⟩ := h
  refine ⟨h0, ao, cap, rfl, h1, h2, h3, fun j hj => ?_⟩
  obtain ⟨b, off, e, hc⟩ := h4 j hj
  exact ⟨b, off, e, (hb.cell (p := ⟨b, off + j, none⟩) (World.block_lt_of_cell? w _ hc)).trans hc⟩

/-- The cell that an index meets. -/
theorem Sl.at {w : World} {sz n : Nat} {ao : Option Addr} {len cap : Nat} {cs : List Value} (h : Sl w sz n (.slice ao len cap) cs) {j : Nat} (hj : j < cs.length) :
    ∃ b off, ao = some ⟨b, off, none⟩ ∧ ∀ i (hi : i < cs.length), w.cell? ⟨b, off + i, none⟩ = some cs[i] := by
  obtain ⟨h0, ao', cap', e, h1, h2, h3, h4⟩ := h
  obtain ⟨rfl, rfl, rfl⟩ := Value.slice.inj e
  obtain ⟨b, off, e1, hc⟩ := h4 j hj
  refine ⟨b, off, e1, fun i hi => ?_⟩
  obtain ⟨b', off', e2, hc'⟩ := h4 i hi
  rw [e1] at e2
  obtain ⟨rfl, rfl⟩ : b = b' ∧ off = off' := by simpa using e2
  exact hc'

/-- What the call owns reads as a slice. -/
theorem Sl.of_owns {w : World} {base e sz n : Nat} {v : Value} {cs : List Value} (h : w.ownsRow base e sz v n cs) : Sl w sz n v cs := by
  have hc := fun g hg => World.ownsRow.cells h (g := g) hg
  obtain ⟨h0, h1⟩ := h
  refine ⟨h0, ?_⟩
  rcases h1 with ⟨rfl, rfl⟩ | ⟨g, cap, cur, rfl, hb, hg, h2, h3, h4, h5⟩
  · refine ⟨none, 0, rfl, Nat.le_refl _, Nat.zero_le _, fun _ => rfl, fun j hj => ?_⟩
    simp at h0
    simp [h0] at hj
  · refine ⟨_, cap, rfl, h2, h3, fun e => (by cases e), fun j hj => ⟨g, 0, rfl, ?_⟩⟩
    have := hc g (by simp [Value.ownBlock]) j cs[j] (by simp [hj])
    rwa [Addr.add_lit] at this

def addrIf (c : Prop) [Decidable c] (ao : Option Addr) (m : Nat) : Option Addr := if c then ao else ao.map (·.add m)

/-- 's[k:]' -/
theorem Sl.drop {w : World} {sz n cap : Nat} {ao : Option Addr} {cs : List Value} (h : Sl w sz n (.slice ao n cap) cs) (k : Nat) (hk : k ≤ n) :
    Sl w sz (n - k) (.slice (if cap = k then ao else ao.map (·.add (k * sz))) (n - k) (cap - k)) (cs.drop (k * sz)) := by
  obtain ⟨h0, ao', cap', e, h1, h2, h3, h4⟩ := h
  obtain ⟨rfl, -, rfl⟩ := Value.slice.inj e
  refine ⟨by rw [List.length_drop, h0, Nat.sub_mul], _, _, rfl, by omega, by omega, ?_, fun j hj => ?_⟩
  · intro h
    split at h
    · have := h3 h; omega
    · have := h3 (by simpa using h); omega
  · rw [List.length_drop] at hj
    obtain ⟨b, off, e1, hc⟩ := h4 (k * sz + j) (by omega)
    have hne : ¬ cap = k := by
      intro hc
      have hkn : k = n := by omega
      subst hkn
      omega
    refine ⟨b, off + k * sz, by rw [if_neg hne, e1]; simp [Addr.add_lit], ?_⟩
    rw [List.getElem_drop, Nat.add_assoc]
    exact hc

/-- 's[:k]' -/
theorem Sl.take {w : World} {sz n cap : Nat} {ao : Option Addr} {cs : List Value} (h : Sl w sz n (.slice ao n cap) cs) (k : Nat) (hk : k ≤ n) :
    Sl w sz k (.slice ao k cap) (cs.take (k * sz)) := by
  obtain ⟨h0, ao', cap', e, h1, h2, h3, h4⟩ := h
  obtain ⟨rfl, -, rfl⟩ := Value.slice.inj e
  have hks : k * sz ≤ n * sz := Nat.mul_le_mul_right _ hk
  refine ⟨by rw [List.length_take]; omega, _, _, rfl, by omega, h2, h3, fun j hj => ?_⟩
  rw [List.length_take] at hj
  obtain ⟨b, off, e1, hc⟩ := h4 j (by omega)
  exact ⟨b, off, e1, by rw [List.getElem_take]; exact hc⟩

/-- 's[k:]' as a run. -/
theorem run_drop {P : Program} {t e : TypeId} {z : Value} {sz bytes : Nat} (ht : P.underlying t = some (.slice e)) (hinfo : (P.info? e).map (fun i => (i.zero, i.size, i.bytes)) = some (some z, sz, bytes))
    {w : World} {n cap : Nat} {ao : Option Addr} {cs : List Value} (h : Sl w sz n (.slice ao n cap) cs) (kl : IntKind) (k : Nat) (hk : k ≤ n) :
    ∃ v', Sl w sz (n - k) v' (cs.drop (k * sz)) ∧ ∀ W, (Instr.slice t (.slice ao n cap) (some (.int kl k)) none none).run P W = .ok v' W := by
  obtain ⟨i, hi, hz, h4, h5⟩ := info_parts hinfo
  refine ⟨_, Sl.drop h k hk, fun W => ?_⟩
  obtain ⟨_, ao', cap', e1, h1, _⟩ := h
  obtain ⟨-, -, rfl⟩ := Value.slice.inj e1
  have he : P.elem t = e := by simp [Program.elem, ht]
  rw [run_slice_l W t ao n cap (by rw [he]; exact ht) kl k (by omega) (by omega), he]
  simp [sizeOf, typeInfo, hi, h4, sliced, Result.andThen]
/-- 's[:k]' as a run. -/
theorem run_take {P : Program} {t e : TypeId} {z : Value} {sz bytes : Nat} (ht : P.underlying t = some (.slice e)) (hinfo : (P.info? e).map (fun i => (i.zero, i.size, i.bytes)) = some (some z, sz, bytes))
    {w : World} {n cap : Nat} {ao : Option Addr} {cs : List Value} (h : Sl w sz n (.slice ao n cap) cs) (kl : IntKind) (k : Nat) (hk : k ≤ n) :
    ∃ v', Sl w sz k v' (cs.take (k * sz)) ∧ ∀ W, (Instr.slice t (.slice ao n cap) none (some (.int kl k)) none).run P W = .ok v' W := by
  obtain ⟨i, hi, hz, h4, h5⟩ := info_parts hinfo
  refine ⟨_, Sl.take h k hk, fun W => ?_⟩
  obtain ⟨_, ao', cap', e1, h1, _⟩ := h
  obtain ⟨-, -, rfl⟩ := Value.slice.inj e1
  have he : P.elem t = e := by simp [Program.elem, ht]
  rw [run_slice_h W t ao n cap (by rw [he]; exact ht) kl k (by omega) (by omega), he]
  have ha : (ao.map fun x => x.add 0) = ao := by cases ao <;> simp [Addr.add_zero']
  simp [sizeOf, typeInfo, hi, h4, sliced, Result.andThen, ha]

/-- Bytes as cells. -/
def byteCells (l : List UInt8) : List Value := l.map fun c => .int .u8 (c.toNat : Int)
theorem byteCells_length (l : List UInt8) : (byteCells l).length = l.length := by simp [byteCells]
theorem byteCells_getElem (l : List UInt8) (j : Nat) (h : j < (byteCells l).length) : (byteCells l)[j] = .int .u8 ((l[j]'(by simpa [byteCells] using h)).toNat : Int) := by simp [byteCells]
theorem byteCells_drop (l : List UInt8) (k : Nat) : (byteCells l).drop k = byteCells (l.drop k) := by simp [byteCells]
theorem byteCells_take (l : List UInt8) (k : Nat) : (byteCells l).take k = byteCells (l.take k) := by simp [byteCells]
theorem byteCells_append (l m : List UInt8) : byteCells l ++ byteCells m = byteCells (l ++ m) := by simp [byteCells]

/-- The slice value v reads as the bytes l. -/
def Bs (w : World) (v : Value) (l : List UInt8) : Prop := Sl w 1 l.length v (byteCells l)

theorem Bs.below {w w' : World} {v : Value} {l : List UInt8} (h : Bs w v l) (hb : Below w.heap.size w w') : Bs w' v l := Sl.below h hb
theorem Bs.nil (w : World) : Bs w (.slice none 0 0) [] := Sl.nil w 1
theorem Bs.shape {w : World} {v : Value} {l : List UInt8} (h : Bs w v l) : ∃ ao cap, v = .slice ao l.length cap ∧ l.length ≤ cap := Sl.shape h

theorem Bs.at {w : World} {ao : Option Addr} {len cap : Nat} {l : List UInt8} (h : Bs w (.slice ao len cap) l) {j : Nat} (hj : j < l.length) :
    ∃ b off, ao = some ⟨b, off, none⟩ ∧ ∀ i (hi : i < l.length), w.cell? ⟨b, off + i, none⟩ = some (.int .u8 ((l[i]'hi).toNat : Int)) := by
  obtain ⟨b, off, e, hc⟩ := Sl.at (j := j) h (by simpa [byteCells] using hj)
  refine ⟨b, off, e, fun i hi => ?_⟩
  have := hc i (by simpa [byteCells] using hi)
  rwa [byteCells_getElem] at this

theorem Bs.drop {w : World} {cap : Nat} {ao : Option Addr} {l : List UInt8} (h : Bs w (.slice ao l.length cap) l) (k : Nat) (hk : k ≤ l.length) :
    Bs w (.slice (if cap = k then ao else ao.map (·.add k)) (l.length - k) (cap - k)) (l.drop k) := by
  have := Sl.drop h k hk
  rw [Nat.mul_one, byteCells_drop] at this
  unfold Bs
  rw [List.length_drop]
  exact this
theorem Bs.take {w : World} {cap : Nat} {ao : Option Addr} {l : List UInt8} (h : Bs w (.slice ao l.length cap) l) (k : Nat) (hk : k ≤ l.length) :
    Bs w (.slice ao k cap) (l.take k) := by
  have := Sl.take h k hk
  rw [Nat.mul_one, byteCells_take] at this
  unfold Bs
  rw [List.length_take, Nat.min_eq_left hk]
  exact this

theorem run_bdrop {P : Program} {t e : TypeId} (ht : P.underlying t = some (.slice e)) (hinfo : (P.info? e).map (fun i => (i.zero, i.size, i.bytes)) = some (some (.int .u8 0), 1, 1))
    {w : World} {cap : Nat} {ao : Option Addr} {l : List UInt8} (h : Bs w (.slice ao l.length cap) l) (kl : IntKind) (k : Nat) (hk : k ≤ l.length) :
    ∃ v', Bs w v' (l.drop k) ∧ ∀ W, (Instr.slice t (.slice ao l.length cap) (some (.int kl k)) none none).run P W = .ok v' W := by
  obtain ⟨v', h1, h2⟩ := run_drop ht hinfo h kl k hk
  refine ⟨v', ?_, h2⟩
  rw [Nat.mul_one, byteCells_drop] at h1
  unfold Bs
  rwa [List.length_drop]
theorem run_btake {P : Program} {t e : TypeId} (ht : P.underlying t = some (.slice e)) (hinfo : (P.info? e).map (fun i => (i.zero, i.size, i.bytes)) = some (some (.int .u8 0), 1, 1))
    {w : World} {cap : Nat} {ao : Option Addr} {l : List UInt8} (h : Bs w (.slice ao l.length cap) l) (kl : IntKind) (k : Nat) (hk : k ≤ l.length) :
    ∃ v', Bs w v' (l.take k) ∧ ∀ W, (Instr.slice t (.slice ao l.length cap) none (some (.int kl k)) none).run P W = .ok v' W := by
  obtain ⟨v', h1, h2⟩ := run_take ht hinfo h kl k hk
  refine ⟨v', ?_, h2⟩
  rw [Nat.mul_one, byteCells_take] at h1
  unfold Bs
  rwa [List.length_take, Nat.min_eq_left hk]

/-- The bytes l as a string's value. -/
def str (l : List UInt8) : ByteArray := ⟨l.toArray⟩
@[go_sem] theorem str_toList (l : List UInt8) : (str l).toList = l := by unfold str; simp
@[go_sem] theorem str_size (l : List UInt8) : (str l).size = l.length := by simp [str, ByteArray.size]
theorem str_inj {l m : List UInt8} (h : str l = str m) : l = m := by
  have := congrArg (fun s : ByteArray => s.data.toList) h
  simpa [str] using this
theorem str_append (l m : List UInt8) : str l ++ str m = str (l ++ m) := by
  unfold str
  apply ByteArray.ext
  simp
theorem str_of (s : ByteArray) : str s.data.toList = s := by
  unfold str
  apply ByteArray.ext
  simp

/-- 'string(b)' as a run. -/
theorem run_str {P : Program} {src e dst : TypeId} (hs : P.underlying src = some (.slice e)) (he : P.underlying e = some (.int .u8)) (hd : P.underlying dst = some .string)
    {w : World} {v : Value} {l : List UInt8} (h : Bs w v l) : (convert src dst v).run P w = .ok (.string (str l)) w := by
  obtain ⟨-, ao, cap, rfl, h1, h2, h3, -⟩ := id h
  cases ao with
  | none =>
    obtain rfl := h3 rfl
    have : l = [] := List.eq_nil_of_length_eq_zero (by omega)
    subst this
    exact run_convert_bytes_nil w src e hs he _ _ dst hd
  | some a =>
    have hl : (loadCells a l.length).run P w = .ok ((l.map fun c => (c.toNat : Int)).map (Value.int .u8)).toArray w := by
      have := run_loadCells_list (P := P) w a ((l.map fun c => (c.toNat : Int)).map (Value.int .u8)) (fun j v hj => by
        obtain ⟨hlt, rfl⟩ := List.getElem?_eq_some_iff.1 hj
        simp only [List.length_map] at hlt
        obtain ⟨b, off, e1, e2⟩ := h.at hlt
        obtain rfl := Option.some.inj e1
        rw [Addr.add_lit, e2 j hlt]
        simp)
      simpa using this
    rw [run_convert_bytes_string w src dst e _ _ cap hs he hd, run_bytesToString w _ _ cap _ hl, foldl_push_bytes]
    simp only [Result.ok.injEq, Value.string.injEq, and_true]
    have e2 : (l.map fun c => (c.toNat : Int)).map (fun n => UInt8.ofNat n.toNat) = l := by
      rw [List.map_map]
      conv => rhs; rw [← List.map_id l]
      exact List.map_congr_left fun c _ => by simp
    rw [e2]
    unfold str
    apply ByteArray.ext
    simp [ByteArray.empty, ByteArray.emptyWithCapacity]
    rfl

/-- A new block reads as a slice. -/
theorem Sl.lit (w : World) (e : TypeId) (sz n : Nat) (vs : Array Value) (fz : Nat × Nat) (hn : vs.size = n * sz) (h : n ≤ maxLen) : Sl (w.alloc (.cells vs e fz)) sz n (.slice (some ⟨w.heap.size, 0, none⟩) n n) vs.toList := by
  refine ⟨by simpa using hn, _, _, rfl, Nat.le_refl _, h, fun e => (by cases e), fun j hj => ⟨_, _, rfl, ?_⟩⟩
  rw [Nat.zero_add, cell_of_row (w.alloc (.cells vs e fz)) w.heap.size j vs e fz (heap_alloc_new w _)]
  simp only [Array.length_toList] at hj
  simp [hj]
/-- A new block of bytes reads as a slice. -/
theorem Bs.lit {w : World} {e : TypeId} {fz : Nat × Nat} {vs : Array Value} (l : List UInt8) (n : Nat) (hn : l.length = n) (h : n ≤ maxLen) (hv : vs = (byteCells l).toArray) : Bs (w.alloc (.cells vs e fz)) (.slice (some ⟨w.heap.size, 0, none⟩) n n) l := by
  have := Sl.lit w e 1 n vs fz (by rw [hv]; simp [byteCells, hn]) h
  subst hn hv
  exact this

/-- 'append(own, src...)': the destination is the call's own, the source any slice. -/
theorem wpList_append_sl {P : Program} {w : World} {ops : Array Oper} {rest : List Oper} {o : Oper} {a : Act} {Q : Exit → Act → World → Prop} (hgd : o.guard = none) (s x : Operand) (t : TypeId)
    (ho : o.op = .call { callee := .builtin .append, args := #[s, x], argTypes := #[t, t] })
    (base : Nat) (e : TypeId) (z : Value) (size bytes : Nat) (ht : P.underlying t = some (.slice e)) (hinfo : (P.info? e).map (fun i => (i.zero, i.size, i.bytes)) = some (some z, size, bytes))
    (hzs : z.cells.size = size) (hsz : 0 < size)
    (v : Value) (n : Nat) (xs : List Value) (hs : a.eval s = v) (hown : w.ownsRow base e size v n xs)
    (u : Value) (m : Nat) (news : List Value) (hx : a.eval x = u) (hsrc : Sl w size m u news) (h1 : ∀ u ∈ news, u.oneCell' = true)
    (h63 : n + m ≤ maxLen) (hbytes : (n + m) * bytes ≤ 140737488355328) (hbase : base ≤ w.heap.size)
    (h : ∀ v' w', w'.ownsRow base e size v' (n + m) (xs ++ news) → w.grownBy w' v.ownBlock → (v' = .slice none 0 0 ↔ v = .slice none 0 0 ∧ m = 0) → wpList P ops Q rest (a.put o.dst v') w' ) :
    wpList P ops Q (o :: rest) a w := by
  obtain ⟨i, hi, hz, h4, h5⟩ := info_parts hinfo
  obtain ⟨h0, ao, cap, rfl, hmc, hcm, hnone, hc⟩ := hsrc
  cases ao with
  | none =>
    have hc0 := hnone rfl
    subst hc0
    obtain rfl : m = 0 := by omega
    have hnil : news = [] := List.eq_nil_of_length_eq_zero (by rw [h0]; simp)
    subst hnil
    refine wpList_append_own_none hgd s x t ho base e i size ht hi v n xs hs hown hx ?_
    exact h v w (by simpa using hown) (World.grownBy.refl _ _) (by simp)
  | some ad =>
    refine wpList_append_own (w := w) hgd s x t ho base e i z size bytes ht hi hz h4 h5 hzs hsz v n xs hs hown ad m cap news hx h0 (fun j y hj => ?_) h1 h63 hbytes hbase h
    obtain ⟨hlt, rfl⟩ := List.getElem?_eq_some_iff.1 hj
    obtain ⟨b, off, e1, e2⟩ := hc j hlt
    obtain rfl := Option.some.inj e1
    rw [Addr.add_lit]
    exact e2

/-- 'make([]T, n)': n zeros of the call's own. -/
theorem wpList_make_sl {P : Program} {w : World} {ops : Array Oper} {rest : List Oper} {o : Oper} {a : Act} {Q : Exit → Act → World → Prop}
    (hg : o.guard = none) (l c : Operand) (t : TypeId) (hop : o.op = Op.makeSlice t l c)
    (base : Nat) (e : TypeId) (z : Value) (size bytes : Nat) (ht : P.underlying t = some (.slice e)) (hinfo : (P.info? e).map (fun i => (i.zero, i.size, i.bytes)) = some (some z, size, bytes))
    (kl kc : IntKind) (n : Nat) (hl : a.eval l = .int kl n) (hc : a.eval c = .int kc n) (b2 : bytes * n ≤ 281474976710656) (b3 : n ≤ maxLen) (b4 : base ≤ w.heap.size)
    (hK : ∀ w', w'.ownsRow base e size (.slice (some ⟨w.heap.size, 0, none⟩) n n) n (madeCells z.cells (n * size)).toList → w.grownBy w' none → wpList P ops Q rest (a.put o.dst (.slice (some ⟨w.heap.size, 0, none⟩) n n)) w') :
    wpList P ops Q (o :: rest) a w := by
  obtain ⟨i, hi, hz, h4, h5⟩ := info_parts hinfo
  exact wpList_make_full w hg l c t hop base e i z size ht hi hz h4 kl kc n n n hl hc rfl rfl (by rw [h5]; exact b2) b3 b4 hK

theorem byteCells_oneCell (l : List UInt8) : ∀ u ∈ byteCells l, u.oneCell' = true := by
  intro u hu
  obtain ⟨_, _, rfl⟩ := List.mem_map.1 hu
  rfl

/-- What a call leaves, told from the blocks that it found: for a chain of calls. -/
theorem below_next {w0 w w' : World} (h : Below w0.heap.size w0 w) (h' : Below w.heap.size w w') : Below w0.heap.size w0 w' := h.trans (h'.mono h.size)
theorem below_drewN (w : World) (n : Nat) : Below w.heap.size w (w.drewN n) := ⟨rfl, rfl, rfl, Nat.le_refl _, fun _ _ => rfl⟩
theorem ret_bool {a b : Bool} (h : a = b) : Ending.returned (.bool a) = .returned (.bool b) := by rw [h]
theorem ownBlock_ge {w : World} {base e sz n : Nat} {v : Value} {cs : List Value} (h : w.ownsRow base e sz v n cs) : ∀ k, v.ownBlock = some k → base ≤ k := fun k hk => (h.lt k hk).1
theorem ownsRow.below {w w' : World} {base e sz n : Nat} {v : Value} {cs : List Value} (h : w.ownsRow base e sz v n cs) (hb : Below w.heap.size w w') : w'.ownsRow base e sz v n cs := by
  refine ⟨h.1, ?_⟩
  rcases h.2 with h2 | ⟨g, cap, cur, hv, hg, hh, r⟩
  · exact .inl h2
  · exact .inr ⟨g, cap, cur, hv, hg, by rw [hb.block g (Array.getElem?_eq_some_iff.1 hh).1]; exact hh, r⟩
theorem ownsRow.base {w : World} {base base' e sz n : Nat} {v : Value} {cs : List Value} (h : w.ownsRow base e sz v n cs) (hb : base' ≤ base) : w.ownsRow base' e sz v n cs := by
  refine ⟨h.1, ?_⟩
  rcases h.2 with h2 | ⟨g, cap, cur, hv, hg, r⟩
  · exact .inl h2
  · exact .inr ⟨g, cap, cur, hv, Nat.le_trans hb hg, r⟩

theorem ret_int {k : IntKind} {a b : Int} (h : a = b) : Ending.returned (.int k a) = .returned (.int k b) := by rw [h]

/-- A number in so many bytes, the highest first. -/
def be : Nat → Nat → List UInt8
  | 0, _ => []
  | k + 1, x => UInt8.ofNat (x / 256 ^ k) :: be k x
theorem be_length : ∀ k x, (be k x).length = k
  | 0, _ => rfl
  | k + 1, x => by simp [be, be_length k]

end Go.Proofs.YtljpfocmnppjgaaDoor
