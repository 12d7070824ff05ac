/- Slices as lists of cells, and the world as it grows: words and lemmas for walks. No program. From a walk to what a law's row asks: the result is true, the arguments read as they did, nothing that was there has turned. Numbers as sets of bits. No program. Slices of 64-bit numbers. No program. A slice of 64-bit numbers among the arguments of a row. No program. Slices of structs of three cells. No program. What cmp.Compare and cmp.Or return at ints. A statement whose order Go leaves open, with calls that make memory: one walk in one order serves every order. Each operation but the loud ones yields one value in every world that has grown from the one at hand; a loud one stands alone when it comes up. No program. Labels and which may flow where, as plain functions. No program. What lattice.label, Leq, within, Down, and the reference's Bit, One, Leq, Down return. -/
import Derived.WalkKit
import Derived.Lib.Hide
import Derived.Laws.AppendOwnNone
import Derived.WalkSpells
import Derived.Deep.Draws
import Derived.Lib.SlBytesConst
import Derived.Deep.DeepFit
import Derived.Test.YtmapmeacjpoaoaaDoorRows
import Derived.ProofKit
import Derived.OpenShut
import Derived.Deep.DeepHandedRow
import Derived.Still
import Derived.BigQuiet
import Derived.Deep.QuietTactic
namespace Go.Proofs.YtmapmeacjpoaoaaDoor
open Go Go.RowKit

/-- The slice value v of n elements of sz cells each holds the cells cs in the world w. -/
def Sl (w : World) (sz n : Nat) (v : Value) (cs : List Value) : Prop :=
  cs.length = n * sz ∧ ∃ ao cap, v = .slice ao n cap ∧ n ≤ cap ∧ cap ≤ maxLen ∧ (ao = none → cap = 0) ∧
    ∀ j (h : j < cs.length), ∃ b off, ao = some ⟨b, off, none⟩ ∧ w.cell? ⟨b, off + j, none⟩ = some cs[j]

theorem Addr.add_zero' (a : Addr) : a.add 0 = a := by cases a with | mk b o s => cases s <;> simp [Addr.add]
theorem Sl.nil (w : World) (sz : Nat) : Sl w sz 0 (.slice none 0 0) [] :=
  ⟨by simp, none, 0, rfl, Nat.le_refl _, Nat.zero_le _, fun _ => rfl, fun j h => by simp at h⟩

theorem Sl.shape {w : World} {sz n : Nat} {v : Value} {cs : List Value} (h : Sl w sz n v cs) : ∃ ao cap, v = .slice ao n cap ∧ n ≤ cap := by
  obtain ⟨_, ao, cap, rfl, h1, _⟩ := h
  exact ⟨ao, cap, rfl, h1⟩

theorem Sl.below {w w' : World} {sz n : Nat} {v : Value} {cs : List Value} (h : Sl w sz n v cs) (hb : Below w.heap.size w w') : Sl w' sz n v cs := by
  obtain ⟨h0, ao, cap, rfl, h1, h2, h3, h4⟩ := h
  refine ⟨h0, ao, cap, rfl, h1, h2, h3, fun j hj => ?_⟩
  obtain ⟨b, off, e, hc⟩ := h4 j hj
  exact ⟨b, off, e, (hb.cell (p := ⟨b, off + j, none⟩) (World.block_lt_of_cell? w _ hc)).trans hc⟩

/-- The cell that an index meets. -/
theorem Sl.at {w : World} {sz n : Nat} {ao : Option Addr} {len cap : Nat} {cs : List Value} (h : Sl w sz n (.slice ao len cap) cs) {j : Nat} (hj : j < cs.length) :
    ∃ b off, ao = some ⟨b, off, none⟩ ∧ ∀ i (hi : i < cs.length), w.cell? ⟨b, off + i, none⟩ = some cs[i] := by
  obtain ⟨h0, ao', cap', e, h1, h2, h3, h4⟩ := h
  obtain ⟨rfl, rfl, rfl⟩ := Value.slice.inj e
  obtain ⟨b, off, e1, hc⟩ := h4 j hj
  refine ⟨b, off, e1, fun i hi => ?_⟩
  obtain ⟨b', off', e2, hc'⟩ := h4 i hi
  rw [e1] at e2
  obtain ⟨rfl, rfl⟩ : b = b' ∧ off = off' := by simpa using e2
  exact hc'

/-- What the call owns reads as a slice. -/
theorem Sl.of_owns {w : World} {base e sz n : Nat} {v : Value} {cs : List Value} (h : w.ownsRow base e sz v n cs) : Sl w sz n v cs := by
  have hc := fun g hg => World.ownsRow.cells h (g := g) hg
  obtain ⟨h0, h1⟩ := h
  refine ⟨h0, ?_⟩
  rcases h1 with ⟨rfl, rfl⟩ | ⟨g, cap, cur, rfl, hb, hg, h2, h3, h4, h5⟩
  · refine ⟨none, 0, rfl, Nat.le_refl _, Nat.zero_le _, fun _ => rfl, fun j hj => ?_⟩
    simp at h0
    simp [h0] at hj
  · refine ⟨_, cap, rfl, h2, h3, fun e => (by cases e), fun j hj => ⟨g, 0, rfl, ?_⟩⟩
    have := hc g (by simp [Value.ownBlock]) j cs[j] (by simp [hj])
    rwa [Addr.add_lit] at this

/-- 's[k:]' -/
theorem Sl.drop {w : World} {sz n cap : Nat} {ao : Option Addr} {cs : List Value} (h : Sl w sz n (.slice ao n cap) cs) (k : Nat) (hk : k ≤ n) :
    Sl w sz (n - k) (.slice (if cap = k then ao else ao.map (·.add (k * sz))) (n - k) (cap - k)) (cs.drop (k * sz)) := by
  obtain ⟨h0, ao', cap', e, h1, h2, h3, h4⟩ := h
  obtain ⟨rfl, -, rfl⟩ := Value.slice.inj e
  refine ⟨by rw [List.length_drop, h0, Nat.sub_mul], _, _, rfl, by omega, by omega, ?_, fun j hj => ?_⟩
  · intro h
    split at h
    · have := h3 h; omega
    · have := h3 (by simpa using h); omega
  · rw [List.length_drop] at hj
    obtain ⟨b, off, e1, hc⟩ := h4 (k * sz + j) (by omega)
    have hne : ¬ cap = k := by
      intro hc
      have hkn : k = n := by omega
      subst hkn
      omega
    refine ⟨b, off + k * sz, by rw [if_neg hne, e1]; simp [Addr.add_lit], ?_⟩
    rw [List.getElem_drop, Nat.add_assoc]
    exact hc

/-- 's[:k]' -/
theorem Sl.take {w : World} {sz n cap : Nat} {ao : Option Addr} {cs : List Value} (h : Sl w sz n (.slice ao n cap) cs) (k : Nat) (hk : k ≤ n) :
    Sl w sz k (.slice ao k cap) (cs.take (k * sz)) := by
  obtain ⟨h0, ao', cap', e, h1, h2, h3, h4⟩ := h
  obtain ⟨rfl, -, rfl⟩ := Value.slice.inj e
  have hks : k * sz ≤ n * sz := Nat.mul_le_mul_right _ hk
  refine ⟨by rw [List.length_take]; omega, _, _, rfl, by omega, h2, h3, fun j hj => ?_⟩
  rw [List.length_take] at hj
  obtain ⟨b, off, e1, hc⟩ := h4 j (by omega)
  exact ⟨b, off, e1, by rw [List.getElem_take]; exact hc⟩

/-- 's[k:]' as a run. -/
theorem run_drop {P : Program} {t e : TypeId} {z : Value} {sz bytes : Nat} (ht : P.underlying t = some (.slice e)) (hinfo : (P.info? e).map (fun i => (i.zero, i.size, i.bytes)) = some (some z, sz, bytes))
    {w : World} {n cap : Nat} {ao : Option Addr} {cs : List Value} (h : Sl w sz n (.slice ao n cap) cs) (kl : IntKind) (k : Nat) (hk : k ≤ n) :
    ∃ v', Sl w sz (n - k) v' (cs.drop (k * sz)) ∧ ∀ W, (Instr.slice t (.slice ao n cap) (some (.int kl k)) none none).run P W = .ok v' W := by
  obtain ⟨i, hi, hz, h4, h5⟩ := info_parts hinfo
  refine ⟨_, Sl.drop h k hk, fun W => ?_⟩
  obtain ⟨_, ao', cap', e1, h1, _⟩ := h
  obtain ⟨-, -, rfl⟩ := Value.slice.inj e1
  have he : P.elem t = e := by simp [Program.elem, ht]
  rw [run_slice_l W t ao n cap (by rw [he]; exact ht) kl k (by omega) (by omega), he]
  simp [sizeOf, typeInfo, hi, h4, sliced, Result.andThen]
/-- 's[:k]' as a run. -/
theorem run_take {P : Program} {t e : TypeId} {z : Value} {sz bytes : Nat} (ht : P.underlying t = some (.slice e)) (hinfo : (P.info? e).map (fun i => (i.zero, i.size, i.bytes)) = some (some z, sz, bytes))
    {w : World} {n cap : Nat} {ao : Option Addr} {cs : List Value} (h : Sl w sz n (.slice ao n cap) cs) (kl : IntKind) (k : Nat) (hk : k ≤ n) :
    ∃ v', Sl w sz k v' (cs.take (k * sz)) ∧ ∀ W, (Instr.slice t (.slice ao n cap) none (some (.int kl k)) none).run P W = .ok v' W := by
  obtain ⟨i, hi, hz, h4, h5⟩ := info_parts hinfo
  refine ⟨_, Sl.take h k hk, fun W => ?_⟩
  obtain ⟨_, ao', cap', e1, h1, _⟩ := h
  obtain ⟨-, -, rfl⟩ := Value.slice.inj e1
  have he : P.elem t = e := by simp [Program.elem, ht]
  rw [run_slice_h W t ao n cap (by rw [he]; exact ht) kl k (by omega) (by omega), he]
  have ha : (ao.map fun x => x.add 0) = ao := by cases ao <;> simp [Addr.add_zero']
  simp [sizeOf, typeInfo, hi, h4, sliced, Result.andThen, ha]

/-- The bytes l as a string's value. -/
def str (l : List UInt8) : ByteArray := ⟨l.toArray⟩
@[go_sem] theorem str_toList (l : List UInt8) : (str l).toList = l := by unfold str; simp
@[go_sem] theorem str_size (l : List UInt8) : (str l).size = l.length := by simp [str, ByteArray.size]
theorem str_of (s : ByteArray) : str s.data.toList = s := by
  unfold str
  apply ByteArray.ext
  simp

/-- A new block reads as a slice. -/
theorem Sl.lit (w : World) (e : TypeId) (sz n : Nat) (vs : Array Value) (fz : Nat × Nat) (hn : vs.size = n * sz) (h : n ≤ maxLen) : Sl (w.alloc (.cells vs e fz)) sz n (.slice (some ⟨w.heap.size, 0, none⟩) n n) vs.toList := by
  refine ⟨by simpa using hn, _, _, rfl, Nat.le_refl _, h, fun e => (by cases e), fun j hj => ⟨_, _, rfl, ?_⟩⟩
  rw [Nat.zero_add, cell_of_row (w.alloc (.cells vs e fz)) w.heap.size j vs e fz (heap_alloc_new w _)]
  simp only [Array.length_toList] at hj
  simp [hj]
/-- 'append(own, src...)': the destination is the call's own, the source any slice. -/
theorem wpList_append_sl {P : Program} {w : World} {ops : Array Oper} {rest : List Oper} {o : Oper} {a : Act} {Q : Exit → Act → World → Prop} (hgd : o.guard = none) (s x : Operand) (t : TypeId)
    (ho : o.op = .call { callee := .builtin .append, args := #[s, x], argTypes := #[t, t] })
    (base : Nat) (e : TypeId) (z : Value) (size bytes : Nat) (ht : P.underlying t = some (.slice e)) (hinfo : (P.info? e).map (fun i => (i.zero, i.size, i.bytes)) = some (some z, size, bytes))
    (hzs : z.cells.size = size) (hsz : 0 < size)
    (v : Value) (n : Nat) (xs : List Value) (hs : a.eval s = v) (hown : w.ownsRow base e size v n xs)
    (u : Value) (m : Nat) (news : List Value) (hx : a.eval x = u) (hsrc : Sl w size m u news) (h1 : ∀ u ∈ news, u.oneCell' = true)
    (h63 : n + m ≤ maxLen) (hbytes : (n + m) * bytes ≤ 140737488355328) (hbase : base ≤ w.heap.size)
    (h : ∀ v' w', w'.ownsRow base e size v' (n + m) (xs ++ news) → w.grownBy w' v.ownBlock → (v' = .slice none 0 0 ↔ v = .slice none 0 0 ∧ m = 0) → wpList P ops Q rest (a.put o.dst v') w' ) :
    wpList P ops Q (o :: rest) a w := by
  obtain ⟨i, hi, hz, h4, h5⟩ := info_parts hinfo
  obtain ⟨h0, ao, cap, rfl, hmc, hcm, hnone, hc⟩ := hsrc
  cases ao with
  | none =>
    have hc0 := hnone rfl
    subst hc0
    obtain rfl : m = 0 := by omega
    have hnil : news = [] := List.eq_nil_of_length_eq_zero (by rw [h0]; simp)
    subst hnil
    refine wpList_append_own_none hgd s x t ho base e i size ht hi v n xs hs hown hx ?_
    exact h v w (by simpa using hown) (World.grownBy.refl _ _) (by simp)
  | some ad =>
    refine wpList_append_own (w := w) hgd s x t ho base e i z size bytes ht hi hz h4 h5 hzs hsz v n xs hs hown ad m cap news hx h0 (fun j y hj => ?_) h1 h63 hbytes hbase h
    obtain ⟨hlt, rfl⟩ := List.getElem?_eq_some_iff.1 hj
    obtain ⟨b, off, e1, e2⟩ := hc j hlt
    obtain rfl := Option.some.inj e1
    rw [Addr.add_lit]
    exact e2

/-- 'make([]T, n)': n zeros of the call's own. -/
theorem wpList_make_sl {P : Program} {w : World} {ops : Array Oper} {rest : List Oper} {o : Oper} {a : Act} {Q : Exit → Act → World → Prop}
    (hg : o.guard = none) (l c : Operand) (t : TypeId) (hop : o.op = Op.makeSlice t l c)
    (base : Nat) (e : TypeId) (z : Value) (size bytes : Nat) (ht : P.underlying t = some (.slice e)) (hinfo : (P.info? e).map (fun i => (i.zero, i.size, i.bytes)) = some (some z, size, bytes))
    (kl kc : IntKind) (n : Nat) (hl : a.eval l = .int kl n) (hc : a.eval c = .int kc n) (b2 : bytes * n ≤ 281474976710656) (b3 : n ≤ maxLen) (b4 : base ≤ w.heap.size)
    (hK : ∀ w', w'.ownsRow base e size (.slice (some ⟨w.heap.size, 0, none⟩) n n) n (madeCells z.cells (n * size)).toList → w.grownBy w' none → wpList P ops Q rest (a.put o.dst (.slice (some ⟨w.heap.size, 0, none⟩) n n)) w') :
    wpList P ops Q (o :: rest) a w := by
  obtain ⟨i, hi, hz, h4, h5⟩ := info_parts hinfo
  exact wpList_make_full w hg l c t hop base e i z size ht hi hz h4 kl kc n n n hl hc rfl rfl (by rw [h5]; exact b2) b3 b4 hK

/-- What a call leaves, told from the blocks that it found: for a chain of calls. -/
theorem below_next {w0 w w' : World} (h : Below w0.heap.size w0 w) (h' : Below w.heap.size w w') : Below w0.heap.size w0 w' := h.trans (h'.mono h.size)
theorem below_drewN (w : World) (n : Nat) : Below w.heap.size w (w.drewN n) := ⟨rfl, rfl, rfl, Nat.le_refl _, fun _ _ => rfl⟩
theorem ret_bool {a b : Bool} (h : a = b) : Ending.returned (.bool a) = .returned (.bool b) := by rw [h]
theorem ownBlock_ge {w : World} {base e sz n : Nat} {v : Value} {cs : List Value} (h : w.ownsRow base e sz v n cs) : ∀ k, v.ownBlock = some k → base ≤ k := fun k hk => (h.lt k hk).1
theorem ownsRow.below {w w' : World} {base e sz n : Nat} {v : Value} {cs : List Value} (h : w.ownsRow base e sz v n cs) (hb : Below w.heap.size w w') : w'.ownsRow base e sz v n cs := by
  refine ⟨h.1, ?_⟩
  rcases h.2 with h2 | ⟨g, cap, cur, hv, hg, hh, r⟩
  · exact .inl h2
  · exact .inr ⟨g, cap, cur, hv, hg, by rw [hb.block g (Array.getElem?_eq_some_iff.1 hh).1]; exact hh, r⟩
theorem ownsRow.base {w : World} {base base' e sz n : Nat} {v : Value} {cs : List Value} (h : w.ownsRow base e sz v n cs) (hb : base' ≤ base) : w.ownsRow base' e sz v n cs := by
  refine ⟨h.1, ?_⟩
  rcases h.2 with h2 | ⟨g, cap, cur, hv, hg, r⟩
  · exact .inl h2
  · exact .inr ⟨g, cap, cur, hv, Nat.le_trans hb hg, r⟩

theorem ret_int {k : IntKind} {a b : Int} (h : a = b) : Ending.returned (.int k a) = .returned (.int k b) := by rw [h]

end Go.Proofs.YtmapmeacjpoaoaaDoor
namespace Go.Proofs.YtmapmeacjpoaoaaDoor
open Go Go.RowKit Go.ChangeShapes Go.WideShapes Go.ChangeAt

theorem trodAll_below {H : Type} {enc : TypeId × Value → H} {P : Program} (hl : laidOutB P = true) {W W' : World} (hb : Below W.heap.size W W') :
    ∀ (ts : List TypeId) (vs : List Value) (ds : List (DataW H)) (ps : List MemPlace), (∀ t ∈ ts, P.readableRec t = true ∧ t < P.types.size) →
      DataW.TrodAll enc P W 0 (fun _ => true) true ts vs ds ps → (∀ x ∈ ps, x.block < W.heap.size) →
      DataW.TrodAll enc P W' 0 (fun b => decide (b < W.heap.size)) true ts vs ds ps
  | [], [], [], _, _, h, _ => h
  | [], _ :: _, _, _, _, h, _ => h.elim
  | [], [], _ :: _, _, _, h, _ => h.elim
  | _ :: _, [], _, _, _, h, _ => h.elim
  | _ :: _, _ :: _, [], _, _, h, _ => h.elim
  | t :: ts, v :: vs, d :: ds, ps, ht, h, hlt => by
    obtain ⟨p, q, h1, h2, rfl⟩ := h
    exact ⟨p, q, Below.trod hl (ht t (by simp)).1 (ht t (by simp)).2 h1 hb (fun x hx => hlt x (List.mem_append_left _ hx)),
      trodAll_below hl hb ts vs ds q (fun t' h' => ht t' (by simp [h'])) h2 (fun x hx => hlt x (List.mem_append_right _ hx)), rfl⟩

theorem law_post {H : Type} {enc : TypeId × Value → H} {P : Program} (hl : laidOutB P = true) {f : Func} {s : ChangeSpec} {W W' : World} {args : Array Value} {ds gs : List (DataW H)} {before : List MemPlace} {tb : TypeId}
    (hvs : s.vars = []) (hts : ∀ t ∈ f.params.toList, P.readableRec t = true ∧ t < P.types.size) (hrt : f.resultTypes = #[tb]) (htb : P.underlying tb = some .bool)
    (hW : DataW.Whole enc P f.params.toList s.vars false W args.toList ds gs before) (hb : Below W.heap.size W W')
    (hr : (s.fn H (ds ++ gs)).results = [.lit (.bool true)]) (ha : (s.fn H (ds ++ gs)).args = ds) (hv : (s.fn H (ds ++ gs)).vars = []) :
    s.post enc P f false true false false W args (.bool true) W' := by
  have hlt : ∀ p ∈ before, p.block < W.heap.size := fun p hp => by simpa using hW.lt p hp
  have hW' := hW
  obtain ⟨p, q, hA, hV, rfl, -, -⟩ := hW
  rw [hvs] at hV
  obtain ⟨rfl, rfl⟩ := trodVars_none hV
  refine ⟨ds, [], _, [], p, [], hW', ?_, ?_, ?_, hb.frame _, fun h => by cases h⟩
  · rw [hr, hrt]
    exact trodAll_cons_mk (p := []) (shut_bool htb true) trodAll_mk0
  · rw [ha]
    exact trodAll_below hl hb _ _ _ _ hts hA (fun x hx => hlt x (by simpa using hx))
  · rw [hv, hvs]
    rfl

end Go.Proofs.YtmapmeacjpoaoaaDoor
namespace Go.Proofs.YtmapmeacjpoaoaaDoor

/-- The number whose bits below n are those that p tells. -/
def ofBits : Nat → (Nat → Bool) → Nat
  | 0, _ => 0
  | n + 1, p => ofBits n p + if p n then 2 ^ n else 0
theorem ofBits_lt : ∀ n p, ofBits n p < 2 ^ n
  | 0, _ => by simp [ofBits]
  | n + 1, p => by
    have := ofBits_lt n p
    rw [Nat.pow_succ]
    unfold ofBits
    split <;> omega
theorem testBit_ofBits : ∀ n p i, (ofBits n p).testBit i = (decide (i < n) && p i)
  | 0, _, _ => by simp [ofBits]
  | n + 1, p, i => by
    have h := ofBits_lt n p
    have ih := testBit_ofBits n p i
    unfold ofBits
    by_cases hp : p n = true
    · rw [if_pos hp, Nat.add_comm]
      by_cases hi : i = n
      · subst hi
        rw [Nat.testBit_two_pow_add_eq, Nat.testBit_lt_two_pow h, hp]
        simp
      · by_cases hl : i < n
        · rw [Nat.testBit_two_pow_add_gt hl, ih]
          simp [hl, show i < n + 1 by omega]
        · rw [Nat.testBit_lt_two_pow (Nat.lt_of_lt_of_le (show 2 ^ n + ofBits n p < 2 ^ (n + 1) by rw [Nat.pow_succ]; omega) (Nat.pow_le_pow_right (by decide) (show n + 1 ≤ i by omega)))]
          simp [show ¬ i < n + 1 by omega]
    · have hf : p n = false := by simpa using hp
      rw [if_neg hp, Nat.add_zero, ih]
      by_cases hi : i = n
      · subst hi; simp [hf]
      · simp [show (i < n ↔ i < n + 1) by omega]
theorem ofBits_succ (n : Nat) (p : Nat → Bool) : ofBits (n + 1) p = ofBits n p + if p n then 2 ^ n else 0 := rfl
theorem ofBits_or (n : Nat) (p : Nat → Bool) : (ofBits n p ||| if p n then 2 ^ n else 0) = ofBits (n + 1) p := by
  apply Nat.eq_of_testBit_eq
  intro i
  rw [Nat.testBit_or, testBit_ofBits, testBit_ofBits]
  by_cases hp : p n = true
  · rw [if_pos hp, Nat.testBit_two_pow]
    by_cases hi : n = i
    · subst hi; simp [hp]
    · simp [hi, show (i < n + 1 ↔ i < n) by omega]
  · have hf : p n = false := by simpa using hp
    rw [if_neg hp, Nat.zero_testBit]
    by_cases hi : i = n
    · subst hi; simp [hf]
    · simp [show (i < n + 1 ↔ i < n) by omega]
theorem ofBits_congr {n : Nat} {p q : Nat → Bool} (h : ∀ i, i < n → p i = q i) : ofBits n p = ofBits n q := by
  apply Nat.eq_of_testBit_eq
  intro i
  rw [testBit_ofBits, testBit_ofBits]
  by_cases hi : i < n
  · simp [hi, h i hi]
  · simp [hi]
/-- The bits that are 1, rising, from k on, below n. -/
def bitsFrom (x : Nat) : Nat → Nat → List Nat
  | _, 0 => []
  | k, m + 1 => if x.testBit k then k :: bitsFrom x (k + 1) m else bitsFrom x (k + 1) m
def bitsOf (x : Nat) : List Nat := bitsFrom x 0 64

theorem mem_bitsFrom (x : Nat) : ∀ m k i, i ∈ bitsFrom x k m ↔ k ≤ i ∧ i < k + m ∧ x.testBit i = true
  | 0, k, i => by simp [bitsFrom]; omega
  | m + 1, k, i => by
    have ih := mem_bitsFrom x m (k + 1) i
    unfold bitsFrom
    by_cases h : x.testBit k = true
    · rw [if_pos h, List.mem_cons, ih]
      constructor
      · rintro (rfl | ⟨h1, h2, h3⟩)
        · exact ⟨Nat.le_refl _, by omega, h⟩
        · exact ⟨by omega, by omega, h3⟩
      · rintro ⟨h1, h2, h3⟩
        by_cases hi : i = k
        · exact .inl hi
        · exact .inr ⟨by omega, by omega, h3⟩
    · rw [if_neg h, ih]
      constructor
      · rintro ⟨h1, h2, h3⟩; exact ⟨by omega, by omega, h3⟩
      · rintro ⟨h1, h2, h3⟩
        have : i ≠ k := by rintro rfl; exact h h3
        exact ⟨by omega, by omega, h3⟩
theorem mem_bitsOf {x : Nat} (hx : x < 2 ^ 64) {i : Nat} : i ∈ bitsOf x ↔ x.testBit i = true := by
  rw [bitsOf, mem_bitsFrom]
  constructor
  · exact fun h => h.2.2
  · intro h
    refine ⟨Nat.zero_le _, ?_, h⟩
    rcases Nat.lt_or_ge i 64 with h' | h'
    · omega
    · rw [Nat.testBit_lt_two_pow (Nat.lt_of_lt_of_le hx (Nat.pow_le_pow_right (by decide) h'))] at h
      cases h
end Go.Proofs.YtmapmeacjpoaoaaDoor
namespace Go.Proofs.YtmapmeacjpoaoaaDoor
open Go Go.RowKit

def u64Cells (us : List Nat) : List Value := us.map fun (x : Nat) => .int .u64 (x : Int)
theorem u64Cells_length (us : List Nat) : (u64Cells us).length = us.length := by simp [u64Cells]
/-- The slice value v reads as the numbers us. -/
def Us (w : World) (v : Value) (us : List Nat) : Prop := Sl w 1 us.length v (u64Cells us)
def U64s (us : List Nat) : Prop := ∀ x ∈ us, x < 18446744073709551616
theorem Us.below {w w' : World} {v : Value} {us : List Nat} (h : Us w v us) (hb : Below w.heap.size w w') : Us w' v us := Sl.below h hb
theorem Us.nil (w : World) : Us w (.slice none 0 0) [] := Sl.nil w 1
theorem Us.shape {w : World} {v : Value} {us : List Nat} (h : Us w v us) : ∃ ao cap, v = .slice ao us.length cap ∧ us.length ≤ cap := Sl.shape h
theorem Us.at {w : World} {ao : Option Addr} {len cap : Nat} {us : List Nat} (h : Us w (.slice ao len cap) us) {j : Nat} (hj : j < us.length) :
    ∃ b off, ao = some ⟨b, off, none⟩ ∧ ∀ i, i < us.length → w.cell? ⟨b, off + i, none⟩ = some (.int .u64 ((us.getD i 0 : Nat) : Int)) := by
  obtain ⟨b, off, e, hc⟩ := Sl.at (j := j) h (by simpa [u64Cells] using hj)
  refine ⟨b, off, e, fun i hi => ?_⟩
  have := hc i (by simpa [u64Cells] using hi)
  rw [this]
  simp [u64Cells, List.getD_eq_getElem?_getD, hi]
theorem Us.of_owns {w : World} {base e n : Nat} {v : Value} {us : List Nat} (h : w.ownsRow base e 1 v n (u64Cells us)) : Us w v us := by
  have := Sl.of_owns h
  have e : n = us.length := by have h1 := h.1; rw [u64Cells_length] at h1; omega
  subst e
  exact this
theorem Us.len {w : World} {v : Value} {us : List Nat} (h : Us w v us) : us.length ≤ 9223372036854775807 := by
  obtain ⟨_, ao, cap, _, h1, h2, _⟩ := h
  unfold maxLen at h2
  omega
theorem U64s.getD {us : List Nat} (h : U64s us) (i : Nat) : us.getD i 0 < 18446744073709551616 := by
  rw [List.getD_eq_getElem?_getD]
  by_cases hi : i < us.length
  · rw [List.getElem?_eq_getElem hi]; exact h _ (List.getElem_mem hi)
  · rw [List.getElem?_eq_none (Nat.not_lt.1 hi)]; decide

end Go.Proofs.YtmapmeacjpoaoaaDoor
namespace Go.Proofs.YtmapmeacjpoaoaaDoor
open Go Go.RowKit Go.ChangeShapes Go.WideShapes Go.ChangeAt

theorem open_u64s_cs {H : Type} {enc : TypeId × Value → H} {P : Program} {W : World} {t e : TypeId} {fuel : Nat} {cs : List Value} {x : DataW H × List MemPlace} (ht : P.underlying t = some (.slice e)) (he : P.underlying e = some (.int .u64)) (hc : P.cellsOf e = 1)
    (hf : DataW.trod enc P W 0 (fun _ => true) true fuel t cs = some x) :
    ∃ (v : Value) (l : List Nat), cs = [v] ∧ Us W v l ∧ U64s l := by
  rcases open_ints ht he hc hf with ⟨hcs, hx⟩ | ⟨a, len, cap, zs, hcs, _, hl, hm, hz, hx, hcell, hwz⟩
  · rw [hcs]
    exact ⟨_, [], rfl, Us.nil _, fun x hx => by cases hx⟩
  · simp only [if_true] at hz
    rw [hcs]
    have hb : ∀ z ∈ zs, 0 ≤ z ∧ z ≤ 18446744073709551615 := fun z hz => by
      have := hwz z hz
      simpa [Lit.wf, IntKind.min, IntKind.max, IntKind.signed, IntKind.bits] using this
    refine ⟨_, (zs.take len).map Int.toNat, rfl, ?_, ?_⟩
    · unfold Us
      have e1 : ((zs.take len).map Int.toNat).length = len := by simp; omega
      have e2 : u64Cells ((zs.take len).map Int.toNat) = (zs.take len).map (Value.int .u64) := by
        unfold u64Cells
        rw [List.map_map]
        exact List.map_congr_left fun z hz => by
          have := hb z (List.mem_of_mem_take hz)
          simp only [Function.comp]; rw [Int.toNat_of_nonneg this.1]
      rw [e1, e2]
      refine ⟨by simp; omega, _, _, rfl, hl, hm, fun e => (by cases e), fun j hj => ?_⟩
      simp only [List.length_map, List.length_take] at hj
      have hcj := hcell j (by omega)
      obtain ⟨b, off, rfl, -⟩ := ints_at hcell (show 0 < zs.length by omega)
      refine ⟨b, off, rfl, ?_⟩
      rw [Addr.add_lit] at hcj
      rw [hcj]
      simp [List.getD_eq_getElem?_getD, show j < zs.length by omega]
    · intro x hx
      obtain ⟨z, hz, rfl⟩ := List.mem_map.1 hx
      have := hb z (List.mem_of_mem_take hz)
      omega

end Go.Proofs.YtmapmeacjpoaoaaDoor
namespace Go.Proofs.YtmapmeacjpoaoaaDoor
open Go Go.RowKit

/-- What a struct's three cells hold. -/
structure Three (α : Type) where
  c0 : α → Value
  c1 : α → Value
  c2 : α → Value
namespace Three
variable {α : Type} (E : Three α)
def cells (l : List α) : List Value := l.flatMap fun a => [E.c0 a, E.c1 a, E.c2 a]
theorem cells_cons (a : α) (l : List α) : E.cells (a :: l) = E.c0 a :: E.c1 a :: E.c2 a :: E.cells l := rfl
theorem cells_length : ∀ l, (E.cells l).length = l.length * 3
  | [] => rfl
  | a :: l => by rw [cells_cons, List.length_cons, List.length_cons, List.length_cons, cells_length l, List.length_cons]; omega
theorem cells_append (l m : List α) : E.cells (l ++ m) = E.cells l ++ E.cells m := by simp [cells]
theorem cells_drop : ∀ (l : List α) (k : Nat), (E.cells l).drop (k * 3) = E.cells (l.drop k)
  | _, 0 => by simp
  | [], k + 1 => by simp [cells]
  | a :: l, k + 1 => by
    rw [cells_cons, show (k + 1) * 3 = k * 3 + 1 + 1 + 1 by omega, List.drop_succ_cons, List.drop_succ_cons, List.drop_succ_cons, cells_drop l k, List.drop_succ_cons]
theorem cells_take : ∀ (l : List α) (k : Nat), (E.cells l).take (k * 3) = E.cells (l.take k)
  | _, 0 => by simp [cells]
  | [], k + 1 => by simp [cells]
  | a :: l, k + 1 => by
    rw [cells_cons, show (k + 1) * 3 = k * 3 + 1 + 1 + 1 by omega, List.take_succ_cons, List.take_succ_cons, List.take_succ_cons, cells_take l k, List.take_succ_cons, cells_cons]
theorem cells_at : ∀ (l : List α) (i : Nat) (hi : i < l.length), (E.cells l)[i * 3]? = some (E.c0 l[i]) ∧ (E.cells l)[i * 3 + 1]? = some (E.c1 l[i]) ∧ (E.cells l)[i * 3 + 2]? = some (E.c2 l[i])
  | [], i, hi => by simp at hi
  | a :: l, 0, _ => by simp [cells_cons]
  | a :: l, i + 1, hi => by
    have ih := cells_at l i (by simpa using hi)
    rw [cells_cons, show (i + 1) * 3 = i * 3 + 1 + 1 + 1 by omega]
    simpa using ih
/-- The slice value v reads as the structs l. -/
def Ss (w : World) (v : Value) (l : List α) : Prop := Sl w 3 l.length v (E.cells l)
variable {E}
theorem Ss.below {w w' : World} {v : Value} {l : List α} (h : E.Ss w v l) (hb : Below w.heap.size w w') : E.Ss w' v l := Sl.below h hb
theorem Ss.nil (w : World) : E.Ss w (.slice none 0 0) [] := Sl.nil w 3
theorem Ss.shape {w : World} {v : Value} {l : List α} (h : E.Ss w v l) : ∃ ao cap, v = .slice ao l.length cap ∧ l.length ≤ cap := Sl.shape h
theorem Ss.len {w : World} {v : Value} {l : List α} (h : E.Ss w v l) : l.length ≤ 9223372036854775807 := by
  obtain ⟨_, ao, cap, _, h1, h2, _⟩ := h
  unfold maxLen at h2
  omega
theorem Ss.of_owns {w : World} {base e n : Nat} {v : Value} {l : List α} (h : w.ownsRow base e 3 v n (E.cells l)) : E.Ss w v l := by
  have := Sl.of_owns h
  have e : n = l.length := by have h1 := h.1; rw [cells_length] at h1; omega
  subst e
  exact this
theorem Ss.at {w : World} {ao : Option Addr} {len cap : Nat} {l : List α} (h : E.Ss w (.slice ao len cap) l) {j : Nat} (hj : j < l.length) :
    ∃ b off, ao = some ⟨b, off, none⟩ ∧ ∀ i (hi : i < l.length), w.cell? ⟨b, off + i * 3, none⟩ = some (E.c0 l[i]) ∧ w.cell? ⟨b, off + i * 3 + 1, none⟩ = some (E.c1 l[i]) ∧ w.cell? ⟨b, off + i * 3 + 2, none⟩ = some (E.c2 l[i]) := by
  have hc3 := E.cells_length l
  obtain ⟨b, off, e, hc⟩ := Sl.at (j := j * 3) h (by omega)
  refine ⟨b, off, e, fun i hi => ?_⟩
  obtain ⟨h0, h1, h2⟩ := E.cells_at l i hi
  obtain ⟨p0, q0⟩ := List.getElem?_eq_some_iff.1 h0
  obtain ⟨p1, q1⟩ := List.getElem?_eq_some_iff.1 h1
  obtain ⟨p2, q2⟩ := List.getElem?_eq_some_iff.1 h2
  exact ⟨by rw [hc _ p0, q0], by rw [Nat.add_assoc, hc _ p1, q1], by rw [Nat.add_assoc, hc _ p2, q2]⟩
theorem own_cell3 {w : World} {base n cap g : Nat} {e : TypeId} {m : List α} (h : w.ownsRow base e 3 (.slice (some ⟨g, 0, none⟩) n cap) n (E.cells m)) (j : Nat) (hj : j < m.length) :
    w.cell? ⟨g, j * 3, none⟩ = some (E.c0 m[j]) ∧ w.cell? ⟨g, j * 3 + 1, none⟩ = some (E.c1 m[j]) ∧ w.cell? ⟨g, j * 3 + 2, none⟩ = some (E.c2 m[j]) := by
  have hl := h.1
  rw [cells_length] at hl
  obtain ⟨h0, h1, h2⟩ := E.cells_at m j hj
  exact ⟨by rw [h.cellAt _ (by omega), h0], by rw [h.cellAt _ (by omega), h1], by rw [h.cellAt _ (by omega), h2]⟩
end Three
end Go.Proofs.YtmapmeacjpoaoaaDoor
namespace Go.Proofs.YtmapmeacjpoaoaaDoor
open Go Go.RowKit

def ordI (a b : Int) : Int := if a < b then -1 else if b < a then 1 else 0
def orI : List Int → Int
  | [] => 0
  | x :: xs => if x = 0 then orI xs else x

/-- The slice value v reads as the ints xs. -/
def Zs (w : World) (v : Value) (xs : List Int) : Prop := Sl w 1 xs.length v (xs.map (Value.int .i64))
theorem Zs.at {w : World} {ao : Option Addr} {len cap : Nat} {xs : List Int} (h : Zs w (.slice ao len cap) xs) {j : Nat} (hj : j < xs.length) :
    ∃ b off, ao = some ⟨b, off, none⟩ ∧ ∀ i (hi : i < xs.length), w.cell? ⟨b, off + i, none⟩ = some (.int .i64 xs[i]) := by
  obtain ⟨b, off, e, hc⟩ := Sl.at (j := j) h (by simpa using hj)
  refine ⟨b, off, e, fun i hi => ?_⟩
  have := hc i (by simpa using hi)
  rw [this]
  simp

end Go.Proofs.YtmapmeacjpoaoaaDoor
namespace Go.Proofs.YtmapmeacjpoaoaaDoor
open Go Go.RowKit

/-- The worlds that have grown from W. -/
structure Grow (R : World → World → Prop) : Prop where
  refl : ∀ w, R w w
  trans : ∀ a b c, R a b → R b c → R a c
/-- Nothing that was there has turned. -/
def Ext (w w' : World) : Prop := Below w.heap.size w w'
theorem ext_grow : Grow Ext := ⟨fun w => Below.refl _ w, fun _ _ _ h k => below_next h k⟩
theorem ext_of_eq {w w' : World} (h : w = w') : Ext w w' := h ▸ Below.refl _ _
def LaterR (R : World → World → Prop) (W : World) : Type := { w : World // R W w }
abbrev Later (W : World) : Type := LaterR Ext W
instance laterSome (W : World) : Nonempty (LaterR Ext W) := ⟨⟨W, ext_grow.refl W⟩⟩
instance laterSomeB (B : Nat) (W : World) : Nonempty (LaterR (Below B) W) := ⟨⟨W, Below.refl _ _⟩⟩
@[go_sem] theorem ext_refl_true (w : World) : Ext w w = True := eq_true (ext_grow.refl w)
@[go_sem] theorem ext_alloc_true (w : World) (o : Obj) : Ext w (w.alloc o) = True := eq_true ((Below.refl _ _).alloc (Nat.le_refl _) o)
@[go_sem] theorem below_refl_true (B : Nat) (w : World) : Below B w w = True := eq_true (Below.refl _ _)

def yieldsTo (R : World → World → Prop) (P : Program) (w : World) (K : Value → World → Prop) : Result Next → Prop
  | .ok (.value u) w' => R w w' ∧ K u w'
  | .ok .skip w' => R w w' ∧ K undef w'
  | .ok (.enter f args) w' => R w w' ∧ Calls P f args w' (fun e w'' => ∃ v, e = .returned v ∧ R w' w'' ∧ K v w'')
  | _ => False

theorem yieldsTo_mono {R : World → World → Prop} (gr : Grow R) {P : Program} {w : World} {K K' : Value → World → Prop} {r : Result Next} (h : ∀ v w', R w w' → K v w' → K' v w') (hh : yieldsTo R P w K r) : yieldsTo R P w K' r := by
  cases r with
  | ok n w' =>
    cases n <;> simp only [yieldsTo] at hh ⊢ <;> first
      | exact hh
      | exact ⟨hh.1, h _ _ hh.1 hh.2⟩
      | exact ⟨hh.1, hh.2.mono fun e w'' ⟨v, h1, h2, h3⟩ => ⟨v, h1, h2, h _ _ (gr.trans _ _ _ hh.1 h2) h3⟩⟩
  | halt x w' => exact hh

section
variable {R : World → World → Prop} {P : Program} {ops : Array Oper} {md : Region.Mode}

def hOper (R : World → World → Prop) (P : Program) (o : Oper) (a : Act) (w : World) (K : Act → World → Prop) : Prop := yieldsTo R P w (fun v w' => K (a.put o.dst v) w') ((execOp a.eval o).run P w)
def hOp (R : World → World → Prop) (P : Program) (ops : Array Oper) (i : Nat) (K : Act → World → Prop) (a : Act) (w : World) : Prop :=
  match ops[i]? with
  | none => False
  | some o => if Region.wanted o (yielded ops a.tmps) then hOper R P o a w K else K (a.put o.dst undef) w

theorem hOp_mono (gr : Grow R) {i : Nat} {a : Act} {w : World} {K K' : Act → World → Prop} (h : ∀ a w', R w w' → K a w' → K' a w') (hh : hOp R P ops i K a w) : hOp R P ops i K' a w := by
  unfold hOp at *
  split
  · rename_i ho; simp only [ho] at hh
  · rename_i o ho
    simp only [ho] at hh
    split
    · rename_i hw; simp only [hw, if_true] at hh; exact yieldsTo_mono gr (fun v w' hb => h _ _ hb) hh
    · rename_i hw; simp only [hw] at hh; exact h _ _ (gr.refl _) hh

theorem wpOp_of_hOp {i : Nat} {a : Act} {w : World} {K K' : Act → World → Prop} {Q : Exit → Act → World → Prop} (h : ∀ a w', K a w' → K' a w') (hh : hOp R P ops i K a w) : wpOp P ops Q i K' a w := by
  unfold hOp at hh
  unfold wpOp
  split
  · rename_i ho; simp only [ho] at hh
  · rename_i o ho
    simp only [ho] at hh
    split
    · rename_i hw
      simp only [hw, if_true] at hh
      refine .inl ?_
      unfold hOper at hh
      unfold Oper.wp
      generalize (execOp a.eval o).run P w = r at *
      cases r with
      | ok n w' =>
        cases n <;> simp only [yieldsTo] at hh <;> simp only [Oper.upon] <;> first
          | exact hh.elim
          | exact h _ _ hh.2
          | exact hh.2.mono fun e w'' ⟨v, h1, h2, h3⟩ => by subst h1; exact h _ _ h3
      | halt x w' => exact hh.elim
    · rename_i hw; simp only [hw] at hh; exact h _ _ hh

def wpAnyE (R : World → World → Prop) (P : Program) (md : Region.Mode) (ops : Array Oper) (Q : Act → World → Prop) : Nat → Array Bool → Act → World → Prop
  | 0, listed, a, w => Region.ready md ops listed = [] ∧ ∀ w', R w w' → Q a w'
  | fuel + 1, listed, a, w =>
    (Region.ready md ops listed = [] → ∀ w', R w w' → Q a w') ∧
    ∀ i ∈ Region.ready md ops listed, ∀ w1, R w w1 → hOp R P ops i (wpAnyE R P md ops Q fuel (listed.setIfInBounds i true)) a w1

theorem wpAnyE_later (gr : Grow R) {Q : Act → World → Prop} {fuel : Nat} {listed : Array Bool} {a : Act} {w w' : World} (hb : R w w') (h : wpAnyE R P md ops Q fuel listed a w) : wpAnyE R P md ops Q fuel listed a w' := by
  cases fuel with
  | zero => exact ⟨h.1, fun w'' h'' => h.2 w'' (gr.trans _ _ _ hb h'')⟩
  | succ fuel => exact ⟨fun h0 w'' h'' => h.1 h0 w'' (gr.trans _ _ _ hb h''), fun i hi w1 h1 => h.2 i hi w1 (gr.trans _ _ _ hb h1)⟩

theorem wpAny_of_E (gr : Grow R) {Q : Act → World → Prop} {Q' : Exit → Act → World → Prop} (hQ : ∀ a w, Q a w → Q' .normal a w) : ∀ (fuel : Nat) (listed : Array Bool) (a : Act) (w : World),
    wpAnyE R P md ops Q fuel listed a w → wpAny P md ops Q' fuel listed a w
  | 0, _, _, _, h => ⟨h.1, hQ _ _ (h.2 _ (gr.refl _))⟩
  | fuel + 1, _, _, _, h => ⟨fun h0 => hQ _ _ (h.1 h0 _ (gr.refl _)), fun i hi => wpOp_of_hOp (fun a' w' => wpAny_of_E gr hQ fuel _ a' w') (h.2 i hi _ (gr.refl _))⟩

/-- One value, in every later world. -/
def yieldsV (R : World → World → Prop) (P : Program) (w : World) (v : Value) : Result Next → Prop
  | .ok (.value u) w' => R w w' ∧ u = v
  | .ok .skip w' => R w w' ∧ undef = v
  | .ok (.enter f args) w' => R w w' ∧ Calls P f args w' (fun e w'' => e = .returned v ∧ R w' w'')
  | _ => False
def soft (R : World → World → Prop) (P : Program) (o : Oper) (a : Act) (W : World) (K : Act → Prop) : Prop := ∃ v, (∀ x : LaterR R W, yieldsV R P x.1 v ((execOp a.eval o).run P x.1)) ∧ K (a.put o.dst v)

def YieldsE (R : World → World → Prop) (P : Program) (ops : Array Oper) (W : World) (o : Oper) (v : Value) (a : Act) : Prop :=
  (Region.wanted o (yielded ops a.tmps) = true ∧ ∀ x : LaterR R W, yieldsV R P x.1 v ((execOp a.eval o).run P x.1)) ∨ (Region.wanted o (yielded ops a.tmps) = false ∧ v = undef)

theorem YieldsE.later (gr : Grow R) {W W' : World} {o : Oper} {v : Value} {a : Act} (h : YieldsE R P ops W o v a) (hb : R W W') : YieldsE R P ops W' o v a := by
  rcases h with ⟨h1, h2⟩ | h
  · exact .inl ⟨h1, fun x => h2 ⟨x.1, gr.trans _ _ _ hb x.2⟩⟩
  · exact .inr h

theorem YieldsE.hOp {i : Nat} {o : Oper} {v : Value} {a : Act} {W : World} (gr : Grow R) (hi : ops[i]? = some o) (hy : YieldsE R P ops W o v a) {K : Act → World → Prop} {w1 : World} (hb : R W w1)
    (h : ∀ w', R W w' → K (a.put o.dst v) w') : hOp R P ops i K a w1 := by
  unfold Go.Proofs.YtmapmeacjpoaoaaDoor.hOp
  simp only [hi]
  rcases hy with ⟨hw, hv⟩ | ⟨hw, rfl⟩
  · simp only [hw, if_true]
    have h3 := hv ⟨w1, hb⟩
    unfold hOper
    dsimp only at h3
    generalize (execOp a.eval o).run P w1 = r at *
    cases r with
    | ok n w' =>
      cases n <;> simp only [yieldsV] at h3 <;> simp only [yieldsTo] <;> first
        | exact h3.elim
        | (obtain ⟨h4, rfl⟩ := h3; exact ⟨h4, h _ (gr.trans _ _ _ hb h4)⟩)
        | exact ⟨h3.1, h3.2.mono fun e w'' ⟨h5, h6⟩ => ⟨v, h5, h6, h _ (gr.trans _ _ _ hb (gr.trans _ _ _ h3.1 h6))⟩⟩
    | halt x w' => exact h3.elim
  · simp only [hw, Bool.false_eq_true, if_false]
    exact h _ hb

theorem YieldsE.of_same {o : Oper} {v : Value} {a a' : Act} {W : World} (hy : YieldsE R P ops W o v a) (he : execOp a'.eval o = execOp a.eval o)
    (hw : Region.wanted o (yielded ops a'.tmps) = Region.wanted o (yielded ops a.tmps)) : YieldsE R P ops W o v a' := by
  unfold YieldsE at *
  rw [he, hw]
  exact hy

theorem hOp_put (gr : Grow R) {j : Nat} {oi oj : Oper} {v : Value} {W : World} (hj : ops[j]? = some oj) (hap : oi.apart ops oj = true)
    (hsi : ∀ cs b, oi.op ≠ .select cs b) (hsj : ∀ cs b, oj.op ≠ .select cs b) {K : Act → World → Prop} {a : Act} {w : World}
    (hy : YieldsE R P ops W oi v a) (h : hOp R P ops j K (a.put oi.dst v) w) :
    hOp R P ops j (fun a' w' => YieldsE R P ops W oi v a' ∧ K (a'.put oi.dst v) w') a w := by
  obtain ⟨h1, h2, h3⟩ := Oper.apart_spec hap
  have keep : ∀ (a : Act), YieldsE R P ops W oi v a → ∀ u, YieldsE R P ops W oi v (a.put oj.dst u) := fun a hy u =>
    hy.of_same (execOp_put oi hsi a oj.dst u h3) (wanted_put oi a oj.dst u h3)
  unfold hOp at *
  simp only [hj] at *
  rw [wanted_put oj a oi.dst v h1] at h
  split
  · rename_i hw
    simp only [hw, if_true] at h
    unfold hOper at *
    rw [execOp_put oj hsj a oi.dst v h1] at h
    refine yieldsTo_mono gr (fun u w' _ hk => ⟨keep a hy u, ?_⟩) h
    rw [← Act.put_comm a v u h2]
    exact hk
  · rename_i hw
    simp only [hw] at h
    exact ⟨keep a hy _, by rw [← Act.put_comm a v undef h2]; exact h⟩

theorem wpAnyE_first (gr : Grow R) {Q : Act → World → Prop} {i : Nat} {oi : Oper} {v : Value} (hi : ops[i]? = some oi) (hsel : ∀ (j : Nat) (o : Oper) cs b, ops[j]? = some o → o.op ≠ .select cs b) :
    ∀ (fuel : Nat) (listed : Array Bool) (a : Act) (W : World),
      (∀ j oj, ops[j]? = some oj → j ≠ i → listed.getD j true = false → (∀ e ∈ oj.after, Region.binds md e = true → e.on ≠ i) → oi.apart ops oj = true) →
      i ∈ Region.ready md ops listed → YieldsE R P ops W oi v a →
      wpAnyE R P md ops Q fuel (listed.setIfInBounds i true) (a.put oi.dst v) W → wpAnyE R P md ops Q (fuel + 1) listed a W := by
  intro fuel
  induction fuel with
  | zero =>
    intro listed a W _ hr hy H
    refine ⟨fun h => (by rw [h] at hr; cases hr), fun j hj w1 hb => ?_⟩
    by_cases hji : j = i
    · subst hji; exact hy.hOp gr hi hb fun w' hb' => wpAnyE_later gr hb' H
    · have := ready_mono hj hji
      rw [H.1] at this
      cases this
  | succ fuel ih =>
    intro listed a W hfree hr hy H
    refine ⟨fun h => (by rw [h] at hr; cases hr), fun j hj w1 hb => ?_⟩
    by_cases hji : j = i
    · subst hji; exact hy.hOp gr hi hb fun w' hb' => wpAnyE_later gr hb' H
    · have h1 := H.2 j (ready_mono hj hji) w1 hb
      obtain ⟨hjun, oj, hoj, hall⟩ := mem_ready.1 hj
      have hnot : ∀ e ∈ oj.after, Region.binds md e = true → e.on ≠ i := fun e he hbd heq => by
        have h1 := hall e he hbd
        have h0 := (mem_ready.1 hr).1
        rw [heq] at h1
        rcases Nat.lt_or_ge i listed.size with h' | h'
        · simp [h'] at h0 h1; rw [h0] at h1; cases h1
        · simp [Array.getElem?_eq_none h'] at h1
      have h2 := hOp_put gr hoj (hfree j oj hoj hji hjun hnot) (fun cs b => hsel i oi cs b hi) (fun cs b => hsel j oj cs b hoj) hy h1
      have hfree' : ∀ k ok, ops[k]? = some ok → k ≠ i → (listed.setIfInBounds j true).getD k true = false →
          (∀ e ∈ ok.after, Region.binds md e = true → e.on ≠ i) → oi.apart ops ok = true := fun k ok hk hki hun hno => by
        refine hfree k ok hk hki ?_ hno
        by_cases hjk : j = k
        · subst hjk; exact hjun
        · rw [getD_set_ne true hjk] at hun; exact hun
      refine hOp_mono gr (fun a' w' hb' h3 => ih (listed.setIfInBounds j true) a' w' hfree' (ready_mono hr (Ne.symm hji)) (h3.1.later gr (gr.trans _ _ _ hb hb')) ?_) h2
      rw [Array.setIfInBounds_comm _ _ hji]
      exact h3.2

/-- The walk in one order; 'true': a loud operation. -/
def mix (R : World → World → Prop) (P : Program) (ops : Array Oper) (Q : Act → World → Prop) : List (Nat × Bool) → Act → World → Prop
  | [], a, w => ∀ w', R w w' → Q a w'
  | (i, false) :: rest, a, w => ∃ o, ops[i]? = some o ∧ if Region.wanted o (yielded ops a.tmps) then soft R P o a w (fun a' => mix R P ops Q rest a' w) else mix R P ops Q rest (a.put o.dst undef) w
  | (i, true) :: rest, a, w => ∃ o, ops[i]? = some o ∧ if Region.wanted o (yielded ops a.tmps) then ∀ x : LaterR R w, hOper R P o a x.1 (mix R P ops Q rest) else mix R P ops Q rest (a.put o.dst undef) w

def mixOk (md : Region.Mode) (ops : Array Oper) : List (Nat × Bool) → Array Bool → Bool
  | [], listed => (Region.ready md ops listed).isEmpty
  | (i, false) :: rest, listed => (Region.ready md ops listed).contains i && Region.free md ops listed i && mixOk md ops rest (listed.setIfInBounds i true)
  | (i, true) :: rest, listed => (Region.ready md ops listed == [i]) && mixOk md ops rest (listed.setIfInBounds i true)
def mixB (ops : Array Oper) (order : List (Nat × Bool)) : Bool := Region.noSelect ops && order.length == ops.size && mixOk .any ops order (Array.replicate ops.size false)

theorem mix_sound (gr : Grow R) {Q : Act → World → Prop} (hs : Region.noSelect ops = true) : ∀ (l : List (Nat × Bool)) (listed : Array Bool) (a : Act) (w : World),
    mixOk md ops l listed = true → mix R P ops Q l a w → wpAnyE R P md ops Q l.length listed a w
  | [], _, _, _, hB, h => ⟨by simpa [mixOk] using hB, h⟩
  | (i, false) :: l, listed, a, w, hB, h => by
    simp only [mixOk, Bool.and_eq_true] at hB
    obtain ⟨⟨hr, hf⟩, hB'⟩ := hB
    obtain ⟨o, ho, h⟩ := h
    have hy : ∃ v, YieldsE R P ops w o v a ∧ mix R P ops Q l (a.put o.dst v) w := by
      split at h
      · rename_i hw
        obtain ⟨v, h1, h2⟩ := h
        exact ⟨v, .inl ⟨hw, h1⟩, h2⟩
      · rename_i hw
        exact ⟨undef, .inr ⟨by simpa using hw, rfl⟩, h⟩
    obtain ⟨v, hy, hK⟩ := hy
    exact wpAnyE_first gr ho (Region.noSelect_spec hs) l.length listed a w (Region.free_spec ho hf) (by simpa using hr) hy (mix_sound gr hs l _ _ _ hB' hK)
  | (i, true) :: l, listed, a, w, hB, h => by
    simp only [mixOk, Bool.and_eq_true, beq_iff_eq] at hB
    obtain ⟨hr, hB'⟩ := hB
    obtain ⟨o, ho, h⟩ := h
    refine ⟨fun h0 => (by rw [hr] at h0; cases h0), fun j hj w1 hb => ?_⟩
    rw [hr, List.mem_singleton] at hj
    subst hj
    unfold hOp
    simp only [ho]
    split at h
    · rename_i hw
      simp only [hw, if_true]
      exact yieldsTo_mono gr (fun v w' _ hk => mix_sound gr hs l _ _ _ hB' hk) (h ⟨w1, hb⟩)
    · rename_i hw
      simp only [hw]
      exact wpAnyE_later gr hb (mix_sound gr hs l _ _ _ hB' h)

theorem wp_region_mix (gr : Grow R) {id : Nat} {Q : Exit → Act → World → Prop} {a : Act} {w : World} {l : List Oper} (order : List (Nat × Bool)) (hm : P.follows .mixedOrders = true) (hB : mixB l.toArray order = true)
    (h : mix R P l.toArray (fun a' w' => Q .normal a' w') order a w.drew) : (Code.region id l.toArray true).wp P Q a w := by
  simp only [mixB, Bool.and_eq_true, beq_iff_eq] at hB
  obtain ⟨⟨h1, h2⟩, h3⟩ := hB
  refine wp_region_any hm (wpAny_of_E gr (Q := fun a' w' => Q .normal a' w') (fun _ _ h => h) _ _ _ _ ?_)
  rw [← h2]
  exact mix_sound gr h1 order _ a _ (by rw [h2]; exact h3) h

theorem mix_soft {Q : Act → World → Prop} {l : List Oper} {i : Nat} {rest : List (Nat × Bool)} {o : Oper} {a : Act} {W : World} (ho : l[i]? = some o)
    (h : ∀ K : Act → Prop, (∀ a', mix R P l.toArray Q rest a' W → K a') → if Region.wanted o (yielded l.toArray a.tmps) then soft R P o a W K else K (a.put o.dst undef)) :
    mix R P l.toArray Q ((i, false) :: rest) a W := ⟨o, by simpa using ho, h _ fun _ h => h⟩
theorem mix_loud {Q : Act → World → Prop} {l : List Oper} {i : Nat} {rest : List (Nat × Bool)} {o : Oper} {a : Act} {W : World} (ho : l[i]? = some o)
    (h : ∀ K : Act → World → Prop, (∀ a' w', mix R P l.toArray Q rest a' w' → K a' w') → if Region.wanted o (yielded l.toArray a.tmps) then ∀ x : LaterR R W, hOper R P o a x.1 K else K (a.put o.dst undef) W) :
    mix R P l.toArray Q ((i, true) :: rest) a W := ⟨o, by simpa using ho, h _ fun _ _ h => h⟩
theorem mix_done {Q : Act → World → Prop} {a : Act} {W : World} (h : ∀ w', R W w' → Q a w') : mix R P ops Q [] a W := h
end
attribute [go_sem] soft yieldsV hOper yieldsTo

end Go.Proofs.YtmapmeacjpoaoaaDoor
namespace Go.Proofs.YtmapmeacjpoaoaaDoor.L

def lab (us : List Nat) (a : Int) : Bool := decide (us.length ≤ 64) && decide (0 ≤ a) && decide (a < us.length)
def leq (us : List Nat) (a b : Int) : Bool := lab us a && lab us b && (us.getD a.toNat 0).testBit b.toNat
def down (us : List Nat) (a : Int) : Nat := ofBits us.length fun i => leq us i a
def within (us : List Nat) (a : Nat) : Nat := ofBits us.length (us.getD a 0).testBit
def asInt : Option Nat → Int
  | some c => c
  | none => -1
def first (n : Nat) (p : Nat → Bool) : Int := asInt ((List.range n).find? p)
def above (us : List Nat) (a b : Int) (c : Nat) : Bool := leq us a c && leq us b c
def under (us : List Nat) (a b : Int) (c : Nat) : Bool := leq us c a && leq us c b
def join (us : List Nat) (a b : Int) : Int := first us.length fun c => above us a b c && (List.range us.length).all fun d => !above us a b d || leq us c d
def meet (us : List Nat) (a b : Int) : Int := first us.length fun c => under us a b c && (List.range us.length).all fun d => !under us a b d || leq us d c

theorem lab_iff {us : List Nat} {a : Int} : lab us a = true ↔ us.length ≤ 64 ∧ 0 ≤ a ∧ a < us.length := by
  simp [lab, and_assoc]
theorem lab_nat {us : List Nat} {a : Nat} (h : us.length ≤ 64) : lab us a = decide (a < us.length) := by
  rw [Bool.eq_iff_iff, lab_iff, decide_eq_true_eq]
  omega
theorem leq_long {us : List Nat} (h : 64 < us.length) (a b : Int) : leq us a b = false := by
  have : lab us a = false := by
    rw [Bool.eq_false_iff]; intro h'; have := lab_iff.1 h'; omega
  rw [leq, this]; rfl
theorem leq_of_not_left {us : List Nat} {a : Int} (h : lab us a = false) (b : Int) : leq us a b = false := by rw [leq, h]; rfl
theorem leq_of_not_right {us : List Nat} {b : Int} (h : lab us b = false) (a : Int) : leq us a b = false := by rw [leq, h]; cases lab us a <;> rfl

theorem down_lt (us : List Nat) (a : Int) : down us a < 18446744073709551616 := by
  by_cases h : us.length ≤ 64
  · exact Nat.lt_of_lt_of_le (ofBits_lt _ _) (Nat.pow_le_pow_right (by decide) h)
  · unfold down
    rw [ofBits_congr (q := fun _ => false) (fun i _ => leq_long (by omega) _ _)]
    have : ∀ n, ofBits n (fun _ => false) = 0 := fun n => by induction n with
      | zero => rfl
      | succ n ih => rw [ofBits_succ, ih]; rfl
    rw [this]; decide
theorem testBit_down {us : List Nat} (a : Int) (i : Nat) : (down us a).testBit i = leq us i a := by
  unfold down
  rw [testBit_ofBits]
  by_cases h : i < us.length
  · simp [h]
  · have : lab us i = false := by
      rw [Bool.eq_false_iff]; intro h'; have := lab_iff.1 h'; omega
    rw [leq_of_not_left this]; simp
theorem testBit_within {us : List Nat} (h : us.length ≤ 64) {a : Nat} (ha : a < us.length) (i : Nat) : (within us a).testBit i = leq us a i := by
  unfold within leq
  rw [testBit_ofBits, lab_nat h, lab_nat h]
  simp [ha]

/-- The labels of bits, rising, among n. -/
theorem bitsFrom_filter (x : Nat) : ∀ m k, bitsFrom x k m = (List.range' k m).filter x.testBit
  | 0, k => rfl
  | m + 1, k => by
    rw [List.range'_succ, List.filter_cons, bitsFrom, bitsFrom_filter x m (k + 1)]
theorem bitsOf_filter {x n : Nat} (hn : n ≤ 64) (hx : ∀ i, n ≤ i → x.testBit i = false) : bitsOf x = (List.range n).filter x.testBit := by
  rw [bitsOf, bitsFrom_filter, List.range_eq_range']
  obtain ⟨m, hm⟩ : ∃ m, 64 = n + m := ⟨64 - n, by omega⟩
  rw [hm, ← List.range'_append_1 (s := 0) (m := n) (n := m), List.filter_append]
  have : (List.range' (0 + n) m).filter x.testBit = [] := by
    rw [List.filter_eq_nil_iff]
    intro i hi
    rw [List.mem_range'_1] at hi
    rw [hx i (by omega)]
    decide
  rw [this, List.append_nil]

/-- The first of some that flows, by an order, to all of them. -/
def leastOf (x : Nat) (f : Nat → Nat → Bool) : Int := asInt ((bitsOf x).find? fun c => (bitsOf x).all fun d => f c d)
theorem leastOf_eq {x n : Nat} (hn : n ≤ 64) (p : Nat → Bool) (hx : ∀ i, x.testBit i = (decide (i < n) && p i)) (f : Nat → Nat → Bool) :
    leastOf x f = first n fun c => p c && (List.range n).all fun d => !p d || f c d := by
  unfold leastOf first
  have hb : bitsOf x = (List.range n).filter p := by
    rw [bitsOf_filter hn (fun i hi => by rw [hx]; simp [show ¬ i < n by omega])]
    exact List.filter_congr fun i hi => by rw [hx]; simp [List.mem_range.1 hi]
  rw [hb, List.find?_filter]
  congr 2
  funext c
  rw [List.all_filter, Bool.eq_iff_iff]
  simp

theorem first_none {n : Nat} {p : Nat → Bool} (h : ∀ c, c < n → p c = false) : first n p = -1 := by
  unfold first
  rw [List.find?_eq_none.2 (fun c hc => by rw [h c (List.mem_range.1 hc)]; decide)]
  rfl
theorem join_least {us : List Nat} {a b : Int} (ha : lab us a = true) (hb : lab us b = true) : leastOf (within us a.toNat &&& within us b.toNat) (fun c d => leq us c d) = join us a b := by
  obtain ⟨h64, ha0, han⟩ := lab_iff.1 ha
  obtain ⟨-, hb0, hbn⟩ := lab_iff.1 hb
  refine leastOf_eq h64 (above us a b) (fun i => ?_) _
  rw [Nat.testBit_and, testBit_within h64 (by omega), testBit_within h64 (by omega), Int.toNat_of_nonneg ha0, Int.toNat_of_nonneg hb0]
  unfold above
  by_cases hi : i < us.length
  · simp [hi]
  · have : lab us i = false := by rw [Bool.eq_false_iff]; intro h'; have := lab_iff.1 h'; omega
    simp [leq_of_not_right this]
/-- Rows the other way about. -/
def turned (us : List Nat) : List Nat := (List.range us.length).map fun (i : Nat) => down us i
theorem turned_length (us : List Nat) : (turned us).length = us.length := by simp [turned]
theorem turned_getD {us : List Nat} {i : Nat} (h : i < us.length) : (turned us).getD i 0 = down us i := by
  simp [turned, List.getD_eq_getElem?_getD, h]
theorem leq_turned {us : List Nat} (a b : Int) : leq (turned us) a b = leq us b a := by
  have hl : ∀ a, lab (turned us) a = lab us a := fun a => by unfold lab; rw [turned_length]
  cases ha : lab us a with
  | false => rw [leq_of_not_left (by rw [hl, ha]), leq_of_not_right ha]
  | true =>
    cases hb : lab us b with
    | false => rw [leq_of_not_right (by rw [hl, hb]), leq_of_not_left hb]
    | true =>
      obtain ⟨h64, ha0, han⟩ := lab_iff.1 ha
      obtain ⟨-, hb0, hbn⟩ := lab_iff.1 hb
      have e : leq (turned us) a b = ((turned us).getD a.toNat 0).testBit b.toNat := by unfold leq; rw [hl, hl, ha, hb]; rfl
      rw [e, turned_getD (by omega), testBit_down, Int.toNat_of_nonneg ha0, Int.toNat_of_nonneg hb0]
theorem join_turned {us : List Nat} (a b : Int) : join (turned us) a b = meet us a b := by
  unfold join meet above under
  rw [turned_length]
  congr 1
  funext c
  simp only [leq_turned]

end Go.Proofs.YtmapmeacjpoaoaaDoor.L
namespace Go.Proofs.YtmapmeacjpoaoaaDoor
open Go Go.RowKit

set_option maxHeartbeats 400000 in
theorem label_any (v : Value) (us : List Nat) (a : Int) (w : World) (hv : Us w v us) :
    Calls Tryd.prog 70 #[v, .int .i64 a] w fun e w' => e = .returned (.bool (L.lab us a)) ∧ w = w' := by
  obtain ⟨ao, cap, rfl, -⟩ := hv.shape
  by_cases h1 : us.length ≤ 64
  · have d1 : decide ((us.length : Int) ≤ 64) = true := by simp; omega
    by_cases h2 : 0 ≤ a
    · have d2 : decide (0 ≤ a) = true := by simp; omega
      have hfin : Hid (decide (a < (us.length : Int)) = L.lab us a) := by simp [Hid, L.lab, h1, h2]
      clear h1 h2
      go_enter Tryd.func70, Tryd.ntmps70
      go_wp2_with fail
      go_ret
      exact ⟨by rw [← hfin.out]; rfl, rfl⟩
    · have d2 : decide (0 ≤ a) = false := by simp; omega
      have hfin : Hid (false = L.lab us a) := by simp [Hid, L.lab, h2]
      clear h1 h2
      go_enter Tryd.func70, Tryd.ntmps70
      go_wp2_with fail
      go_ret
      exact ⟨by rw [← hfin.out]; rfl, rfl⟩
  · have d1 : decide ((us.length : Int) ≤ 64) = false := by simp; omega
    have hfin : Hid (false = L.lab us a) := by simp [Hid, L.lab, h1]
    clear h1
    go_enter Tryd.func70, Tryd.ntmps70
    go_wp2_with fail
    go_ret
    exact ⟨by rw [← hfin.out]; rfl, rfl⟩

/-- One bit, as the code asks for it. -/
theorem bit_eq (x b : Nat) : ((x : Int) / 2 ^ b % 2 == 1) = x.testBit b := by
  rw [Nat.testBit_eq_decide_div_mod_eq, Bool.eq_iff_iff, beq_iff_eq, decide_eq_true_eq]
  have : ((x / 2 ^ b % 2 : Nat) : Int) = (x : Int) / 2 ^ b % 2 := by rw [Int.natCast_emod, Int.natCast_ediv, Int.natCast_pow]; rfl
  omega
theorem bit_and (x b : Nat) (hx : x < 18446744073709551616) : bits BinOp.and IntKind.u64 ((x : Int) / 2 ^ b) 1 = (x : Int) / 2 ^ b % 2 := by
  have h := u64_and_nat (x / 2 ^ b) 1 (Nat.lt_of_le_of_lt (Nat.div_le_self _ _) hx) (by decide)
  rw [Nat.and_one_is_mod, Int.natCast_emod, Int.natCast_ediv, Int.natCast_pow] at h
  exact h
set_option maxHeartbeats 400000 in
theorem leq_any (v : Value) (us : List Nat) (a b : Int) (w : World) (hv : Us w v us) (hu : U64s us) :
    Calls Tryd.prog 44 #[v, .int .i64 a, .int .i64 b] w fun e w' => e = .returned (.bool (L.leq us a b)) ∧ w = w' := by
  obtain ⟨ao, cap, rfl, -⟩ := hv.shape
  cases ha : L.lab us a with
  | false =>
    have hfin : Hid (L.leq us a b = false) := L.leq_of_not_left ha b
    go_enter Tryd.func44, Tryd.ntmps44
    go_wp2_with fail
    refine (label_any _ us a w hv).mono ?_
    rintro e w' ⟨rfl, rfl⟩
    rw [ha]
    go_wp2_with fail
    go_ret
    exact ⟨by rw [hfin.out]; rfl, rfl⟩
  | true =>
    cases hb : L.lab us b with
    | false =>
      have hfin : Hid (L.leq us a b = false) := L.leq_of_not_right hb a
      go_enter Tryd.func44, Tryd.ntmps44
      go_wp2_with fail
      refine (label_any _ us a w hv).mono ?_
      rintro e w' ⟨rfl, rfl⟩
      rw [ha]
      go_wp2_with fail
      refine (label_any _ us b w hv).mono ?_
      rintro e w' ⟨rfl, rfl⟩
      rw [hb]
      go_wp2_with fail
      go_ret
      exact ⟨by rw [hfin.out]; rfl, rfl⟩
    | true =>
      have HA := Lib.hid ha
      have HB := Lib.hid hb
      clear ha hb
      obtain ⟨h64, ha0, han⟩ := L.lab_iff.1 HA.out
      obtain ⟨-, hb0, hbn⟩ := L.lab_iff.1 HB.out
      obtain ⟨i, rfl⟩ := Int.eq_ofNat_of_zero_le ha0
      obtain ⟨j, rfl⟩ := Int.eq_ofNat_of_zero_le hb0
      have hi : i < us.length := by omega
      obtain ⟨bk, off, rfl, hc⟩ := hv.at hi
      have hcell := hc i hi
      have hx := hu.getD i
      obtain ⟨x, hxx⟩ : ∃ x, us.getD i 0 = x := ⟨_, rfl⟩
      have hfin : Hid (L.leq us i j = x.testBit j) := by unfold Hid L.leq; rw [HA.out, HB.out, ← hxx]; rfl
      rw [hxx] at hcell hx
      have hj : (j : Int) < 64 := by omega
      have e1 := bit_and x j hx
      clear hxx hc
      go_enter Tryd.func44, Tryd.ntmps44
      go_wp2_with fail
      refine (label_any _ us i w hv).mono ?_
      rintro e w' ⟨rfl, rfl⟩
      rw [HA.out]
      go_wp2_with fail
      refine (label_any _ us j w hv).mono ?_
      rintro e w' ⟨rfl, rfl⟩
      rw [HB.out]
      go_wp2_with fail
      go_ret
      exact ⟨ret_bool (by rw [hfin.out]; exact bit_eq x j), rfl⟩

end Go.Proofs.YtmapmeacjpoaoaaDoor
