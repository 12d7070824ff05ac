/- Sets of labels, and what can be noticed of operations: the plain laws of PurgeGrows and PurgeChains. What stays as it is while some blocks alone are written; sessions and snapshots as they lie in memory. What the reference's Find, Snaps, with return at sessions. What the reference's Open, Snaps, Close return at sessions. What the reference's Close, Snap, Unsnap return at sessions. What the reference's Snap returns at sessions. -/
import Derived.Test.YtmapmeacjpoaoaaDoorPm09
namespace Go.Proofs.YtmapmeacjpoaoaaDoor
namespace L

/-- All bits of the first are bits of the second. -/
def Sub (s t : Nat) : Prop := ∀ i, s.testBit i = true → t.testBit i = true
theorem Sub.refl (s : Nat) : Sub s s := fun _ h => h
theorem Sub.trans {s t u : Nat} (h : Sub s t) (k : Sub t u) : Sub s u := fun i hi => k i (h i hi)
theorem Sub.left (s t : Nat) : Sub s (s ||| t) := fun i h => by rw [Nat.testBit_or, h]; rfl
theorem Sub.right (s t : Nat) : Sub t (s ||| t) := fun i h => by rw [Nat.testBit_or, h, Bool.or_true]
theorem Sub.both {s t u : Nat} (h : Sub s u) (k : Sub t u) : Sub (s ||| t) u := fun i hi => by
  rw [Nat.testBit_or, Bool.or_eq_true] at hi
  rcases hi with hi | hi
  · exact h i hi
  · exact k i hi
theorem Sub.inn {s t : Nat} (h : Sub s t) {x : Int} (hx : L.inn s x = true) : L.inn t x = true := by
  unfold L.inn at *
  simp only [Bool.and_eq_true, decide_eq_true_eq] at *
  exact ⟨hx.1, hx.2.1, h _ hx.2.2⟩
theorem flows_mono {gs gs' : List Gr} (hg : ∀ g ∈ gs', g ∈ gs) {s' s : Nat} (h : Sub s' s) {o : Opr} (hf : flows gs' o s' = true) : flows gs o s = true := by
  unfold flows at *
  simp only [Bool.and_eq_true, decide_eq_true_eq, List.contains_iff_mem] at *
  exact ⟨hf.1, h.inn hf.2.1, hg _ hf.2.2⟩
theorem step_grows (us : List Nat) (gs : List Gr) (o : Opr) (s : Nat) : Sub s (step us gs o s) := by
  unfold step
  split
  · exact Sub.left _ _
  · exact Sub.refl _
theorem step_mono {us : List Nat} {gs gs' : List Gr} (hg : ∀ g ∈ gs', g ∈ gs) {s' s : Nat} (h : Sub s' s) (o : Opr) : Sub (step us gs' o s') (step us gs o s) := by
  cases hf : flows gs' o s' with
  | false =>
    have e : step us gs' o s' = s' := by unfold step; rw [hf]; rfl
    rw [e]
    exact h.trans (step_grows _ _ _ _)
  | true =>
    have e : step us gs' o s' = s' ||| down us o.level := by unfold step; rw [hf]; rfl
    have e2 : step us gs o s = s ||| down us o.level := by unfold step; rw [flows_mono hg h hf]; rfl
    rw [e, e2]
    exact (h.trans (Sub.left _ _)).both (Sub.right _ _)
theorem cur_mono {us : List Nat} {gs gs' : List Gr} (hg : ∀ g ∈ gs', g ∈ gs) {d' d : Nat} (h : Sub d' d) : ∀ l, Sub (cur us gs' d' l) (cur us gs d l)
  | [] => h
  | o :: l => step_mono hg (cur_mono hg h l) o
theorem cur_has (us : List Nat) (gs : List Gr) (d : Nat) : ∀ l, Sub d (cur us gs d l)
  | [] => Sub.refl _
  | o :: l => (cur_has us gs d l).trans (step_grows _ _ _ _)
theorem down_sub {us : List Nat} (h : Lat us) {a b : Nat} (ha : a < us.length) (hb : b < us.length) (hab : leq us a b = true) : Sub (down us a) (down us b) := by
  intro i hi
  rw [testBit_down] at hi ⊢
  have hil : i < us.length := by
    rcases Nat.lt_or_ge i us.length with hi' | hi'
    · exact hi'
    · have : lab us i = false := by rw [Bool.eq_false_iff]; intro h'; have := lab_iff.1 h'; omega
      rw [leq_of_not_left this] at hi; cases hi
  rw [leq_bit h.few hil ha] at hi
  rw [leq_bit h.few ha hb] at hab
  rw [leq_bit h.few hil hb]
  exact h.order.trans i a b hil ha hb hi hab
theorem inn_down {us : List Nat} (x a : Int) : inn (down us x) a = leq us a x := by
  unfold inn
  by_cases h0 : 0 ≤ a
  · by_cases h1 : a < 64
    · simp only [h0, h1, decide_true, Bool.true_and]
      rw [testBit_down, Int.toNat_of_nonneg h0]
    · have : leq us a x = false := leq_of_not_left (by rw [Bool.eq_false_iff]; intro h'; have := lab_iff.1 h'; omega) _
      simp [h1, this]
  · have : leq us a x = false := leq_of_not_left (by rw [Bool.eq_false_iff]; intro h'; have := lab_iff.1 h'; omega) _
    simp [h0, this]
theorem fits_mem {us : List Nat} {gs : List Gr} (h : gcheck us gs = true) {g : Gr} (hg : g ∈ gs) : fits us g = true := by
  unfold gcheck at h
  rw [Bool.and_eq_true, List.all_eq_true] at h
  obtain ⟨i, hi, rfl⟩ := List.mem_iff_getElem.1 hg
  have h1 := h.1 i (List.mem_range.2 hi)
  unfold gok at h1
  rw [Bool.and_eq_true, List.getD_eq_getElem?_getD, List.getElem?_eq_getElem hi, Option.getD_some] at h1
  exact h1.1
theorem flows_has {us : List Nat} {gs : List Gr} (h : Lat us) (hg : gcheck us gs = true) {o : Opr} {s : Nat} (hf : flows gs o s = true) : inn (down us o.level) o.level = true := by
  unfold flows at hf
  simp only [Bool.and_eq_true, decide_eq_true_eq, List.contains_iff_mem] at hf
  have h1 := fits_mem hg hf.2.2
  unfold fits at h1
  simp only [Bool.and_eq_true] at h1
  have h2 : leq us o.label o.level = true := h1.1.1
  have h3 : lab us o.level = true := by
    cases hl : lab us o.level with
    | true => rfl
    | false => rw [leq_of_not_right hl] at h2; cases h2
  obtain ⟨-, h4, h5⟩ := lab_iff.1 h3
  rw [inn_down]
  obtain ⟨n, hn⟩ := Int.eq_ofNat_of_zero_le h4
  rw [hn] at h5 ⊢
  have h6 : n < us.length := by omega
  rw [leq_bit h.few h6 h6]
  exact h.order.same n h6

/-- What is noticed, from an operation on. -/
theorem purges_cons (us : List Nat) (gs : List Gr) (d : Nat) (o : Opr) (l : List Opr) : purges us gs d (o :: l) = pick (inn (cur us gs d (o :: l))) o ++ purges us gs d l := by
  unfold purges purgeTo
  rw [List.length_cons, List.range_succ_eq_map, List.flatMap_cons, List.flatMap_map]
  rfl
theorem trim_kind (p : Int → Bool) (o : Opr) : (trim p o).kind = o.kind := by
  unfold trim
  split
  · split <;> rfl
  · rfl
end L
end Go.Proofs.YtmapmeacjpoaoaaDoor
namespace Go.Proofs.YtmapmeacjpoaoaaDoor
open Go Go.RowKit

/-- Nothing is another one but blocks of G, and new ones. -/
structure Ex (G : Nat → Prop) (w w' : World) : Prop where
  os : w'.os = w.os
  tape : w'.tape = w.tape
  output : w'.output = w.output
  size : w.heap.size ≤ w'.heap.size
  block : ∀ k, k < w.heap.size → ¬ G k → w'.heap[k]? = w.heap[k]?
theorem Ex.refl (G : Nat → Prop) (w : World) : Ex G w w := ⟨rfl, rfl, rfl, Nat.le_refl _, fun _ _ _ => rfl⟩
theorem Ex.trans {G : Nat → Prop} {a b c : World} (h : Ex G a b) (k : Ex G b c) : Ex G a c :=
  ⟨k.os.trans h.os, k.tape.trans h.tape, k.output.trans h.output, Nat.le_trans h.size k.size, fun i hi hg => (k.block i (Nat.lt_of_lt_of_le hi h.size) hg).trans (h.block i hi hg)⟩
theorem Ex.of_below {G : Nat → Prop} {w w' : World} (h : Below w.heap.size w w') : Ex G w w' := ⟨h.os, h.tape, h.output, h.size, fun k hk _ => h.block k hk⟩
theorem Ex.setCell {G : Nat → Prop} (w : World) (b i : Nat) (h : G b) (v : Value) : Ex G w (w.setCell ⟨b, i, none⟩ v) :=
  ⟨rfl, rfl, rfl, by simp [World.setCell], fun k _ hg => Below.heap_setCell w ⟨b, i, none⟩ v k (by rintro rfl; exact hg h)⟩
theorem Ex.mono {G G' : Nat → Prop} {w w' : World} (h : Ex G w w') (hG : ∀ k, k < w.heap.size → G k → G' k) : Ex G' w w' := ⟨h.os, h.tape, h.output, h.size, fun k hk hg => h.block k hk fun hh => hg (hG k hk hh)⟩
theorem Ex.under {G : Nat → Prop} {w w' : World} {base : Nat} (h : Ex G w w') (hG : ∀ k, G k → base ≤ k) (hs : base ≤ w.heap.size) : Below base w w' :=
  ⟨h.os, h.tape, h.output, h.size, fun k hk => h.block k (by omega) fun hg => by have := hG k hg; omega⟩
/-- It holds whatever is done to blocks of G. -/
def Fz (G : Nat → Prop) (w : World) (P : World → Prop) : Prop := ∀ W, Ex G w W → P W
theorem Fz.here {G : Nat → Prop} {w : World} {P : World → Prop} (h : Fz G w P) : P w := h w (Ex.refl _ _)
theorem Fz.on {G : Nat → Prop} {w w' : World} {P : World → Prop} (h : Fz G w P) (hx : Ex G w w') : Fz G w' P := fun W hW => h W (hx.trans hW)
theorem Fz.below {G : Nat → Prop} {w w' : World} {P : World → Prop} (h : Fz G w P) (hx : Below w.heap.size w w') : Fz G w' P := h.on (Ex.of_below hx)
theorem Fz.at {G : Nat → Prop} {w w' : World} {P : World → Prop} (h : Fz G w P) (hx : Below w.heap.size w w') : P w' := h w' (Ex.of_below hx)
theorem Fz.imp {G : Nat → Prop} {w : World} {P Q : World → Prop} (h : Fz G w P) (hi : ∀ W, P W → Q W) : Fz G w Q := fun W hW => hi W (h W hW)
theorem Fz.wide {G G' : Nat → Prop} {w w' : World} {P : World → Prop} (h : Fz G w P) (hx : Ex G w w') (hG : ∀ k, k < w.heap.size → G' k → G k) : Fz G' w' P := fun W hW =>
  h W ⟨hW.os.trans hx.os, hW.tape.trans hx.tape, hW.output.trans hx.output, Nat.le_trans hx.size hW.size, fun k hk hg => (hW.block k (Nat.lt_of_lt_of_le hk hx.size) fun h' => hg (hG k hk h')).trans (hx.block k hk hg)⟩
theorem own_ex {G : Nat → Prop} {w W : World} {base e sz n : Nat} {v : Value} {cs : List Value} (h : w.ownsRow base e sz v n cs) (hv : ∀ k, v.ownBlock = some k → ¬ G k) (hx : Ex G w W) : W.ownsRow base e sz v n cs := by
  refine ⟨h.1, ?_⟩
  rcases h.2 with h2 | ⟨g, cap, cur, rfl, hg, hh, r⟩
  · exact .inl h2
  · exact .inr ⟨g, cap, cur, rfl, hg, by rw [hx.block g (Array.getElem?_eq_some_iff.1 hh).1 (hv g rfl)]; exact hh, r⟩
theorem Fz.own {G : Nat → Prop} {w : World} {base e sz n : Nat} {v : Value} {cs : List Value} (h : w.ownsRow base e sz v n cs) (hG : ∀ k, G k → k < base) : Fz G w (fun W => Sl W sz n v cs) := fun W hx =>
  Sl.of_owns (own_ex h (fun k hk hg => by have := ownBlock_ge h k hk; have := hG k hg; omega) hx)

/-- A session as it lies in memory. -/
def Ses5.cs (r : Ses5 Value) : List Value := [.int .i64 r.level, .int .i64 r.n, r.snaps, .int .i64 r.last, .bool r.gone]
def Snp4.cs (r : Snp4 Value) : List Value := [.int .i64 r.level, .int .i64 r.n, .int .i64 r.snap, r.l]
def sesCells (l : List (Ses5 Value)) : List Value := l.flatMap Ses5.cs
def snpCells (l : List (Snp4 Value)) : List Value := l.flatMap Snp4.cs
section
variable {α : Type} (cs : α → List Value) (sz : Nat)
theorem cells_len (h : ∀ a, (cs a).length = sz) : ∀ l : List α, (l.flatMap cs).length = l.length * sz
  | [] => by simp
  | a :: l => by rw [List.flatMap_cons, List.length_append, cells_len h l, h, List.length_cons, Nat.add_mul, Nat.one_mul, Nat.add_comm]
theorem cells_at (h : ∀ a, (cs a).length = sz) : ∀ (l : List α) (i : Nat) (hi : i < l.length) (j : Nat) (_ : j < sz), (l.flatMap cs)[i * sz + j]? = (cs l[i])[j]?
  | [], i, hi, _, _ => by simp at hi
  | a :: l, 0, _, j, hj => by
    rw [List.flatMap_cons, Nat.zero_mul, Nat.zero_add, List.getElem?_append_left (by rw [h]; exact hj)]
    rfl
  | a :: l, i + 1, hi, j, hj => by
    have e : (i + 1) * sz + j = sz + (i * sz + j) := by rw [Nat.add_mul, Nat.one_mul]; omega
    rw [List.flatMap_cons, List.getElem?_append_right (by rw [h]; omega), h, e, Nat.add_sub_cancel_left, cells_at h l i (by simpa using hi) j hj]
    rfl
end
theorem ses_len (l : List (Ses5 Value)) : (sesCells l).length = l.length * 5 := cells_len Ses5.cs 5 (fun _ => rfl) l
theorem ses_append (l m : List (Ses5 Value)) : sesCells l ++ sesCells m = sesCells (l ++ m) := by simp [sesCells]
theorem snp_append (l m : List (Snp4 Value)) : snpCells l ++ snpCells m = snpCells (l ++ m) := by simp [snpCells]
theorem ses_set : ∀ (l : List (Ses5 Value)) (i : Nat) (_ : i < l.length) (r : Ses5 Value), (((((sesCells l).set (i * 5) (.int .i64 r.level)).set (i * 5 + 1) (.int .i64 r.n)).set (i * 5 + 2) r.snaps).set (i * 5 + 3) (.int .i64 r.last)).set (i * 5 + 4) (.bool r.gone) = sesCells (l.set i r)
  | [], i, hi, _ => by simp at hi
  | b :: l, 0, _, r => by simp [sesCells, Ses5.cs]
  | b :: l, i + 1, hi, r => by
    have ih := ses_set l i (by simpa using hi) r
    have e : ∀ k, (i + 1) * 5 + k = (i * 5 + k) + 1 + 1 + 1 + 1 + 1 := fun k => by omega
    rw [show (i + 1) * 5 = (i * 5) + 1 + 1 + 1 + 1 + 1 by omega]
    have e2 : ∀ l : List (Ses5 Value), sesCells (b :: l) = .int .i64 b.level :: .int .i64 b.n :: b.snaps :: .int .i64 b.last :: .bool b.gone :: sesCells l := fun l => rfl
    rw [List.set_cons_succ (xs := l), e2, e2, ← ih]
    rw [show i * 5 + 1 + 1 + 1 + 1 + 1 + 1 = (i * 5 + 1) + 1 + 1 + 1 + 1 + 1 by omega, show i * 5 + 1 + 1 + 1 + 1 + 1 + 2 = (i * 5 + 2) + 1 + 1 + 1 + 1 + 1 by omega, show i * 5 + 1 + 1 + 1 + 1 + 1 + 3 = (i * 5 + 3) + 1 + 1 + 1 + 1 + 1 by omega, show i * 5 + 1 + 1 + 1 + 1 + 1 + 4 = (i * 5 + 4) + 1 + 1 + 1 + 1 + 1 by omega]
    simp only [List.set_cons_succ]
/-- The slice value v reads as the sessions l; us: their snapshots' slices. -/
structure Sv (w : World) (v : Value) (us : List Value) (l : List Ses) : Prop where
  len : us.length = l.length
  sl : Sl w 5 l.length v (sesCells (List.zipWith Ses5.put l us))
  each : ∀ i (h : i < us.length) (h2 : i < l.length), Zs w us[i] l[i].snaps
theorem Sv.big {w : World} {v : Value} {us : List Value} {l : List Ses} (h : Sv w v us l) : l.length ≤ 9223372036854775807 := by
  obtain ⟨_, ao, cap, _, h1, h2, _⟩ := h.sl
  unfold maxLen at h2
  omega
theorem Sv.nil (w : World) : Sv w (.slice none 0 0) [] [] := ⟨rfl, Sl.nil w 5, fun i h => by simp at h⟩
theorem Sv.below {w w' : World} {v : Value} {us : List Value} {l : List Ses} (h : Sv w v us l) (hb : Below w.heap.size w w') : Sv w' v us l := ⟨h.len, h.sl.below hb, fun i a b => Sl.below (h.each i a b) hb⟩
theorem Sv.at {w : World} {ao : Option Addr} {n cap : Nat} {us : List Value} {l : List Ses} (h : Sv w (.slice ao n cap) us l) {j : Nat} (hj : j < l.length) :
    ∃ b off u, us[j]? = some u ∧ ao = some ⟨b, off, none⟩ ∧ Zs w u l[j].snaps ∧ ∀ W, Below w.heap.size w W → W.cell? ⟨b, off + j * 5, none⟩ = some (.int .i64 l[j].level) ∧ W.cell? ⟨b, off + j * 5 + 1, none⟩ = some (.int .i64 l[j].n) ∧ W.cell? ⟨b, off + j * 5 + 2, none⟩ = some u ∧ W.cell? ⟨b, off + j * 5 + 3, none⟩ = some (.int .i64 l[j].last) ∧ W.cell? ⟨b, off + j * 5 + 4, none⟩ = some (.bool l[j].gone) := by
  obtain ⟨h0, h1, h2⟩ := h
  have hzl : (List.zipWith Ses5.put l us).length = l.length := by simp [h0]
  have hcl := ses_len (List.zipWith Ses5.put l us)
  rw [hzl] at hcl
  obtain ⟨b, off, rfl, -⟩ := h1.at (j := j * 5) (by omega)
  refine ⟨b, off, us[j]'(by omega), List.getElem?_eq_getElem _, rfl, h2 j (by omega) hj, fun W hW => ?_⟩
  obtain ⟨b', off', e, hc⟩ := (h1.below hW).at (j := j * 5) (by omega)
  obtain ⟨rfl, rfl⟩ : b = b' ∧ off = off' := by simpa using e
  have key : ∀ i (hi : i < 5), W.cell? ⟨b, off + j * 5 + i, none⟩ = (Ses5.put l[j] (us[j]'(by omega))).cs[i]? := fun i hi => by
    have h3 := cells_at Ses5.cs 5 (fun _ => rfl) (List.zipWith Ses5.put l us) j (by omega) i hi
    rw [Nat.add_assoc, hc (j * 5 + i) (by omega), ← List.getElem?_eq_getElem]
    unfold sesCells
    rw [h3]
    simp
  exact ⟨key 0 (by decide), key 1 (by decide), key 2 (by decide), key 3 (by decide), key 4 (by decide)⟩
theorem infoS : (Tryd.prog.info? 91).map (fun i => (i.zero, i.size, i.bytes)) = some (some (.agg #[.int .i64 0, .int .i64 0, .slice none 0 0, .int .i64 0, .bool false]), 5, 56) := by kernel_rfl
theorem ses_oneCell {l : List (Ses5 Value)} (h : ∀ r ∈ l, ∃ a n c, r.snaps = .slice a n c) : ∀ u ∈ sesCells l, u.oneCell' = true := by
  intro u hu
  obtain ⟨r, hr, h2⟩ := List.mem_flatMap.1 hu
  obtain ⟨a, n, c, e⟩ := h r hr
  simp only [Ses5.cs, List.mem_cons, List.not_mem_nil, or_false] at h2
  rcases h2 with rfl | rfl | rfl | rfl | rfl
  all_goals first | rfl | (rw [e]; rfl)
theorem Sv.raw {w : World} {v : Value} {us : List Value} {l : List Ses} (h : Sv w v us l) : ∀ r ∈ List.zipWith Ses5.put l us, ∃ a n c, r.snaps = .slice a n c := by
  intro r hr
  obtain ⟨i, hi, rfl⟩ := List.mem_iff_getElem.1 hr
  have h0 := h.len
  rw [List.length_zipWith] at hi
  obtain ⟨a, c, e, -⟩ := Sl.shape (h.each i (by omega) (by omega))
  rw [List.getElem_zipWith]
  exact ⟨a, _, c, e⟩
/-- What the walk asks of the stores of a session. -/
theorem own_go5 {w : World} {base n cap g : Nat} {e : TypeId} {m : List (Ses5 Value)} (h : w.ownsRow base e 5 (.slice (some ⟨g, 0, none⟩) n cap) n (sesCells m)) (j : Nat) (hj : j < m.length) (r : Ses5 Value) :
    ∃ v0 v1 v2 v3 v4, w.cell? ⟨g, j * 5, none⟩ = some v0 ∧ w.frozen? ⟨g, j * 5, none⟩ = false
      ∧ (w.setCell ⟨g, j * 5, none⟩ (.int .i64 r.level)).cell? ⟨g, j * 5 + 1, none⟩ = some v1 ∧ (w.setCell ⟨g, j * 5, none⟩ (.int .i64 r.level)).frozen? ⟨g, j * 5 + 1, none⟩ = false
      ∧ ((w.setCell ⟨g, j * 5, none⟩ (.int .i64 r.level)).setCell ⟨g, j * 5 + 1, none⟩ (.int .i64 r.n)).cell? ⟨g, j * 5 + 2, none⟩ = some v2 ∧ ((w.setCell ⟨g, j * 5, none⟩ (.int .i64 r.level)).setCell ⟨g, j * 5 + 1, none⟩ (.int .i64 r.n)).frozen? ⟨g, j * 5 + 2, none⟩ = false
      ∧ (((w.setCell ⟨g, j * 5, none⟩ (.int .i64 r.level)).setCell ⟨g, j * 5 + 1, none⟩ (.int .i64 r.n)).setCell ⟨g, j * 5 + 2, none⟩ r.snaps).cell? ⟨g, j * 5 + 3, none⟩ = some v3 ∧ (((w.setCell ⟨g, j * 5, none⟩ (.int .i64 r.level)).setCell ⟨g, j * 5 + 1, none⟩ (.int .i64 r.n)).setCell ⟨g, j * 5 + 2, none⟩ r.snaps).frozen? ⟨g, j * 5 + 3, none⟩ = false
      ∧ ((((w.setCell ⟨g, j * 5, none⟩ (.int .i64 r.level)).setCell ⟨g, j * 5 + 1, none⟩ (.int .i64 r.n)).setCell ⟨g, j * 5 + 2, none⟩ r.snaps).setCell ⟨g, j * 5 + 3, none⟩ (.int .i64 r.last)).cell? ⟨g, j * 5 + 4, none⟩ = some v4 ∧ ((((w.setCell ⟨g, j * 5, none⟩ (.int .i64 r.level)).setCell ⟨g, j * 5 + 1, none⟩ (.int .i64 r.n)).setCell ⟨g, j * 5 + 2, none⟩ r.snaps).setCell ⟨g, j * 5 + 3, none⟩ (.int .i64 r.last)).frozen? ⟨g, j * 5 + 4, none⟩ = false := by
  have hl := h.1
  rw [ses_len] at hl
  have h1 := (h.stored (j * 5) (.int .i64 r.level)).1
  have h2 := (h1.stored (j * 5 + 1) (.int .i64 r.n)).1
  have h3 := (h2.stored (j * 5 + 2) r.snaps).1
  have h4 := (h3.stored (j * 5 + 3) (.int .i64 r.last)).1
  have c0 := h.cellAt (j * 5) (by omega)
  have c1 := h1.cellAt (j * 5 + 1) (by omega)
  have c2 := h2.cellAt (j * 5 + 2) (by omega)
  have c3 := h3.cellAt (j * 5 + 3) (by omega)
  have c4 := h4.cellAt (j * 5 + 4) (by omega)
  rw [List.getElem?_eq_getElem (by simp only [List.length_set, ses_len]; omega)] at c0 c1 c2 c3 c4
  exact ⟨_, _, _, _, _, c0, h.frozenAt _, c1, h1.frozenAt _, c2, h2.frozenAt _, c3, h3.frozenAt _, c4, h4.frozenAt _⟩
theorem own_store5 {w : World} {base n cap g : Nat} {e : TypeId} {m : List (Ses5 Value)} (h : w.ownsRow base e 5 (.slice (some ⟨g, 0, none⟩) n cap) n (sesCells m)) (j : Nat) (hj : j < m.length) (r : Ses5 Value) :
    (((((w.setCell ⟨g, j * 5, none⟩ (.int .i64 r.level)).setCell ⟨g, j * 5 + 1, none⟩ (.int .i64 r.n)).setCell ⟨g, j * 5 + 2, none⟩ r.snaps).setCell ⟨g, j * 5 + 3, none⟩ (.int .i64 r.last)).setCell ⟨g, j * 5 + 4, none⟩ (.bool r.gone)).ownsRow base e 5 (.slice (some ⟨g, 0, none⟩) n cap) n (sesCells (m.set j r)) := by
  have := (((((h.stored (j * 5) (.int .i64 r.level)).1.stored (j * 5 + 1) (.int .i64 r.n)).1.stored (j * 5 + 2) r.snaps).1.stored (j * 5 + 3) (.int .i64 r.last)).1.stored (j * 5 + 4) (.bool r.gone)).1
  rw [ses_set m j hj r] at this
  exact this
end Go.Proofs.YtmapmeacjpoaoaaDoor
namespace Go.Proofs.YtmapmeacjpoaoaaDoor
open Go Go.RowKit

namespace M
theorem idx_some {α : Type} {p : α → Bool} {l : List α} {i : Nat} (h : i < l.length) (h1 : p l[i] = true) (h2 : ∀ j (h : j < l.length), j < i → p l[j] = false) : l.findIdx? p = some i :=
  List.findIdx?_eq_some_iff_getElem.2 ⟨h, h1, fun j hj => by simp [h2 j (by omega) hj]⟩
theorem idx_none {α : Type} {p : α → Bool} {l : List α} (h : ∀ j (_ : j < l.length), p l[j] = false) : l.findIdx? p = none :=
  List.findIdx?_eq_none_iff.2 fun x hx => by
    obtain ⟨j, hj, rfl⟩ := List.mem_iff_getElem.1 hx
    exact h j hj
def idxI (o : Option Nat) : Int := match o with | some i => (i : Int) | none => -1
theorem sfind_eq (l : List Ses) (level n : Int) : sfind l level n = idxI (l.findIdx? (isS level n)) := by unfold sfind idxI; rfl
end M

set_option maxHeartbeats 1000000 in
theorem sfind_any (v : Value) (us : List Value) (l : List Ses) (level n : Int) (w : World) (h : Sv w v us l) :
    Calls Tryd.prog 24 #[v, .int .i64 level, .int .i64 n] w fun e w' => e = .returned (.int .i64 (M.idxI (l.findIdx? (M.isS level n)))) ∧ w = w' := by
  have hbig := h.big
  obtain ⟨ao, cap, rfl, -⟩ := h.sl.shape
  have HE := Lib.hid h
  clear h
  obtain ⟨N, hN⟩ : ∃ N, l.length = N := ⟨_, rfl⟩
  have HN := Lib.hid hN
  rw [hN] at HE hbig ⊢
  clear hN
  go_enter Tryd.func24, Tryd.ntmps24
  go_wp2_with fail
  go_loop [7] (fun i => ∃ k : Nat, k ≤ N ∧ i = .int .i64 k ∧ Hid (∀ j (h : j < l.length), j < k → M.isS level n l[j] = false)) (fun i => N - (intOf i).toNat)
  case atStart => exact ⟨0, by omega, rfl, fun j h h2 => by omega⟩
  case round =>
    obtain ⟨k, hk, rfl, HR⟩ := hrel
    by_cases hkn : k < N
    · have hkI : (k : Int) < (N : Int) := by omega
      have hk0 : (0 : Int) ≤ (k : Int) := by omega
      obtain ⟨bb, off, u, -, rfl, -, hc⟩ := HE.out.at (j := k) (by rw [HN.out]; exact hkn)
      obtain ⟨p0, p1, -, -, p4⟩ := hc w (Below.refl _ _)
      have HI : Hid (M.isS level n (l[k]'(by rw [HN.out]; exact hkn)) = true → l.findIdx? (M.isS level n) = some k) := fun h => M.idx_some (by rw [HN.out]; exact hkn) h HR.out
      have HJ : Hid (M.isS level n (l[k]'(by rw [HN.out]; exact hkn)) = false → ∀ j (h : j < l.length), j < k + 1 → M.isS level n l[j] = false) := fun h j hj hjk => by
        rcases Nat.lt_or_ge j k with h2 | h2
        · exact HR.out j hj h2
        · (obtain rfl : j = k := by omega); exact h
      obtain ⟨x, hx⟩ : ∃ x, (l[k]'(by rw [HN.out]; exact hkn)) = x := ⟨_, rfl⟩
      rw [hx] at p0 p1 p4 HI HJ
      obtain ⟨x0, x1, x3, x4, x2⟩ := x
      simp only [] at p0 p1 p4
      clear hc hx HR
      cases h1 : (x0 == level) with
      | true =>
        cases h2 : (x1 == n) with
        | true =>
          cases x4 with
          | false =>
            have hfin := Lib.hid (HI.out (by unfold M.isS; simp only [h1, h2]; rfl))
            clear HI HJ
            go_wp2_with fail
            go_ret
            exact ⟨by rw [hfin.out]; rfl, rfl⟩
          | true =>
            have hfin := Lib.hid (HJ.out (by unfold M.isS; simp only [h1, h2]; rfl))
            clear HI HJ
            go_wp2_with fail
            go_round
            case rel => exact ⟨k + 1, by omega, by go_num, hfin⟩
            case measure => simp [intOf]; omega
        | false =>
          have hfin := Lib.hid (HJ.out (by unfold M.isS; simp only [h1, h2]; rfl))
          clear HI HJ
          go_wp2_with fail
          go_round
          case rel => exact ⟨k + 1, by omega, by go_num, hfin⟩
          case measure => simp [intOf]; omega
      | false =>
        have hfin := Lib.hid (HJ.out (by unfold M.isS; simp only [h1]; rfl))
        clear HI HJ
        go_wp2_with fail
        go_round
        case rel => exact ⟨k + 1, by omega, by go_num, hfin⟩
        case measure => simp [intOf]; omega
    · have hkI : ¬ ((k : Int) < (N : Int)) := by omega
      obtain rfl : k = N := by omega
      have hfin : Hid (l.findIdx? (M.isS level n) = none) := M.idx_none fun j hj => HR.out j hj (by rw [← HN.out]; exact hj)
      go_wp2_with fail
      go_ret
      exact ⟨by rw [hfin.out]; rfl, rfl⟩

set_option maxHeartbeats 1000000 in
theorem swith_any (v : Value) (rs : List (Ses5 Value)) (k : Nat) (x0 x1 x3 : Int) (x4 : Bool) (a : Option Addr) (n c : Nat) (w : World) (h : Sl w 5 rs.length v (sesCells rs)) (hr : ∀ r ∈ rs, ∃ a n c, r.snaps = .slice a n c) (hk : k < rs.length) (hl : rs.length ≤ 1000) :
    Calls Tryd.prog 73 #[v, .int .i64 k, .agg #[.int .i64 x0, .int .i64 x1, .slice a n c, .int .i64 x3, .bool x4]] w fun e w' => ∃ v', e = .returned v' ∧ w'.ownsRow w.heap.size 91 5 v' rs.length (sesCells (rs.set k ⟨x0, x1, x3, x4, .slice a n c⟩)) ∧ Below w.heap.size w w' := by
  obtain ⟨ao, cap, rfl, -⟩ := h.shape
  have hb1 : Below w.heap.size w (w.alloc (.cells #[.int .i64 x0, .int .i64 x1, .slice a n c, .int .i64 x3, .bool x4] 91)) := (Below.refl _ _).alloc (Nat.le_refl _) _
  have HB := Lib.hid hb1
  have HS := Lib.hid (h.below hb1)
  have hbx : (w.alloc (.cells #[.int .i64 x0, .int .i64 x1, .slice a n c, .int .i64 x3, .bool x4] 91)).heap[w.heap.size]? = some (.cells #[.int .i64 x0, .int .i64 x1, .slice a n c, .int .i64 x3, .bool x4] 91 (0, 0)) := heap_alloc_new w _
  have HOC := Lib.hid (ses_oneCell hr)
  clear h hb1 hr
  obtain ⟨N, hN⟩ : ∃ N, rs.length = N := ⟨_, rfl⟩
  have HN := Lib.hid hN
  rw [hN] at HS hl hk ⊢
  clear hN
  go_enter Tryd.func73, Tryd.ntmps73
  obtain ⟨w1, hw1⟩ : ∃ w1, w.alloc (.cells #[.int .i64 x0, .int .i64 x1, .slice a n c, .int .i64 x3, .bool x4] 91) = w1 := ⟨_, rfl⟩
  rw [hw1] at HB HS hbx
  obtain ⟨G, hG⟩ : ∃ G, w.heap.size = G := ⟨_, rfl⟩
  rw [hG] at HB hbx ⊢
  obtain ⟨G1, hG1⟩ : ∃ G1, w1.heap.size = G1 := ⟨_, rfl⟩
  have HG1 := Lib.hid hG1
  have hGG : G < G1 := by rw [← hG1]; exact (Array.getElem?_eq_some_iff.1 hbx).1
  have HBox : Hid (∀ W, Below G1 w1 W → W.cell? ⟨G, 0, none⟩ = some (.int .i64 x0) ∧ W.cell? ⟨G, 1, none⟩ = some (.int .i64 x1) ∧ W.cell? ⟨G, 2, none⟩ = some (.slice a n c) ∧ W.cell? ⟨G, 3, none⟩ = some (.int .i64 x3) ∧ W.cell? ⟨G, 4, none⟩ = some (.bool x4)) := fun W hW => by
    have hh := (hW.block G hGG).trans hbx
    exact ⟨cell_of_row W G 0 _ _ (0, 0) hh, cell_of_row W G 1 _ _ (0, 0) hh, cell_of_row W G 2 _ _ (0, 0) hh, cell_of_row W G 3 _ _ (0, 0) hh, cell_of_row W G 4 _ _ (0, 0) hh⟩
  have HO0 := Lib.hid (World.ownsRow_nil w1 G1 91 5)
  have hG4 : G1 ≤ w1.heap.size := Nat.le_of_eq hG1.symm
  clear hG1 hbx
  go_wp2_with (at_builtin; go_must (refine wpList_append_sl rfl _ _ 61 rfl G1 91 _ 5 56 Tryd.underlying61 infoS rfl (by decide) _ _ _ rfl HO0.out _ N (sesCells rs) rfl HS.out HOC.out (by unfold maxLen; omega) (by omega) hG4 ?_))
  intro v5 w5 hown5 hgrow hnn
  clear hnn hG hw1
  have hB5 : Hid (Below G1 w1 w5) := (Below.refl _ _).grown hgrow hG4 (ownBlock_ge HO0.out)
  obtain ⟨g, cp, rfl, hgb, hgl⟩ : ∃ g cp, v5 = .slice (some ⟨g, 0, none⟩) N cp ∧ G1 ≤ g ∧ g < w5.heap.size := by
    rcases hown5.2 with ⟨-, h0⟩ | ⟨g, cp, cur, e, hg, hh, -⟩
    · omega
    · exact ⟨g, cp, e, hg, (Array.getElem?_eq_some_iff.1 hh).1⟩
  have hst := own_store5 hown5 k (by rw [HN.out]; exact hk) ⟨x0, x1, x3, x4, .slice a n c⟩
  obtain ⟨s0, s1, s2, s3, s4, c0, f0, c1, f1, c2, f2, c3, f3, c4, f4⟩ := own_go5 hown5 k (by rw [HN.out]; exact hk) ⟨x0, x1, x3, x4, .slice a n c⟩
  obtain ⟨g0, g1, g2, g3, g4⟩ := HBox.out w5 hB5.out
  have HST := Lib.hid hst
  have hkI : (k : Int) < (N : Int) := by omega
  have hk0 : (0 : Int) ≤ (k : Int) := by omega
  have HFB : Hid (Below G w (((((w5.setCell ⟨g, k * 5, none⟩ (.int .i64 x0)).setCell ⟨g, k * 5 + 1, none⟩ (.int .i64 x1)).setCell ⟨g, k * 5 + 2, none⟩ (.slice a n c)).setCell ⟨g, k * 5 + 3, none⟩ (.int .i64 x3)).setCell ⟨g, k * 5 + 4, none⟩ (.bool x4))) := by
    have hbb := HB.out.trans (hB5.out.mono (Nat.le_of_lt hGG))
    exact ((((hbb.setCell (p := ⟨g, k * 5, none⟩) (by show G ≤ g; omega) _).setCell (p := ⟨g, k * 5 + 1, none⟩) (by show G ≤ g; omega) _).setCell (p := ⟨g, k * 5 + 2, none⟩) (by show G ≤ g; omega) _).setCell (p := ⟨g, k * 5 + 3, none⟩) (by show G ≤ g; omega) _).setCell (p := ⟨g, k * 5 + 4, none⟩) (by show G ≤ g; omega) _
  simp only [] at c0 f0 c1 f1 c2 f2 c3 f3 c4 f4
  clear hst hown5 hgrow HO0 hB5 HBox
  go_wp2_with fail
  go_ret
  exact ⟨_, rfl, ownsRow.base HST.out (Nat.le_of_lt hGG), HFB.out⟩
end Go.Proofs.YtmapmeacjpoaoaaDoor
namespace Go.Proofs.YtmapmeacjpoaoaaDoor
open Go Go.RowKit

theorem zip_set (l : List Ses) (us : List Value) (i : Nat) (s : Ses) (u : Value) : List.zipWith Ses5.put (l.set i s) (us.set i u) = (List.zipWith Ses5.put l us).set i (s.put u) := by
  apply List.ext_getElem
  · simp
  · intro j h1 h2
    simp only [List.getElem_zipWith, List.getElem_set]
    split <;> rfl
theorem Sv.fz {G : Nat → Prop} {w : World} {base n : Nat} {v : Value} {us : List Value} {l : List Ses} (own : w.ownsRow base 91 5 v n (sesCells (List.zipWith Ses5.put l us))) (hl : us.length = l.length) (hn : n = l.length) (hG : ∀ k, G k → k < base)
    (each : Fz G w (fun W => ∀ i (h : i < us.length) (h2 : i < l.length), Zs W us[i] l[i].snaps)) : Fz G w (fun W => Sv W v us l) := fun W hW => ⟨hl, by rw [← hn]; exact Fz.own own hG W hW, each W hW⟩
/-- The slice stays of the call's own in every world but one where its block is written. -/
theorem Sv.each_fz {G : Nat → Prop} {w : World} {v : Value} {us : List Value} {l : List Ses} (h : Fz G w (fun W => Sv W v us l)) : Fz G w (fun W => ∀ i (h : i < us.length) (h2 : i < l.length), Zs W us[i] l[i].snaps) := h.imp fun W hW => hW.each

theorem ssnaps_any (v : Value) (us : List Value) (l : List Ses) (level n : Int) (w : World) (h : Sv w v us l) :
    Calls Tryd.prog 71 #[v, .int .i64 level, .int .i64 n] w fun e w' => ∃ v', e = .returned v' ∧ Zs w v' (M.snapsOf l level n) ∧ w = w' := by
  have hbig := h.big
  have HF := Lib.hid (sfind_any v us l level n w h)
  obtain ⟨ao, cap, rfl, -⟩ := h.sl.shape
  cases hf : l.findIdx? (M.isS level n) with
  | none =>
    rw [hf] at HF
    have hr : M.snapsOf l level n = [] := by unfold M.snapsOf; rw [hf]
    rw [hr]
    have hn : M.idxI none = -1 := rfl
    rw [hn] at HF
    clear hf hr h hn
    go_enter Tryd.func71, Tryd.ntmps71
    go_wp2_with fail
    refine HF.out.mono ?_
    rintro e w' ⟨rfl, rfl⟩
    go_wp2_with fail
    go_ret
    exact ⟨_, rfl, Sl.nil _ 1, rfl⟩
  | some i =>
    rw [hf] at HF
    obtain ⟨hi, -⟩ := List.findIdx?_eq_some_iff_getElem.1 hf
    obtain ⟨b, off, u, hu, rfl, hz, hc⟩ := h.at (j := i) hi
    have hr : M.snapsOf l level n = l[i].snaps := by unfold M.snapsOf; simp [hf, hi]
    rw [hr]
    obtain ⟨p0, p1, p2, p3, p4⟩ := hc w (Below.refl _ _)
    have HZ := Lib.hid hz
    obtain ⟨N, hN⟩ : ∃ N, l.length = N := ⟨_, rfl⟩
    have hiI : (i : Int) < (N : Int) := by omega
    have hi0 : (0 : Int) ≤ (i : Int) := by omega
    have hn : M.idxI (some i) = (i : Int) := rfl
    rw [hn] at HF
    rw [hN] at HF ⊢
    clear hf hr h hc hu hz hbig hN hn p0 p1 p3 p4
    go_enter Tryd.func71, Tryd.ntmps71
    go_wp2_with fail
    refine HF.out.mono ?_
    rintro e w' ⟨rfl, rfl⟩
    clear HF
    go_wp2_with fail
    go_ret
    exact ⟨_, rfl, HZ.out, rfl⟩

namespace M
theorem count_step {l : List Ses} {level : Int} {i : Nat} (h : i < l.length) : (l.take (i + 1)).countP (fun s => s.level == level) = (l.take i).countP (fun s => s.level == level) + (if l[i].level == level then 1 else 0) := by
  rw [List.take_succ_eq_append_getElem h, List.countP_append, List.countP_singleton]
end M

set_option maxHeartbeats 1000000 in
theorem sopen_any (G : Nat → Prop) (v : Value) (us : List Value) (l : List Ses) (level : Int) (w : World) (h : Fz G w (fun W => Sv W v us l)) (hG : ∀ k, G k → k < w.heap.size) (hl : l.length ≤ 1000) :
    Calls Tryd.prog 22 #[v, .int .i64 level] w fun e w' => ∃ v' us', e = .returned (.tuple #[v', .int .i64 (M.openN l level)]) ∧ Fz G w' (fun W => Sv W v' us' (M.openS l level)) ∧ Below w.heap.size w w' := by
  have HH := Lib.hid (Sv.each_fz h)
  have HGG := Lib.hid hG
  have h2 := h.here
  obtain ⟨ao, cap, rfl, -⟩ := h2.sl.shape
  have HE := Lib.hid h2
  have HOC := Lib.hid (ses_oneCell h2.raw)
  have HLU := Lib.hid h2.len
  have HSl := Lib.hid h2.sl
  clear h h2 hG
  have HT : Hid (1 + (((l.take l.length).countP (fun s => s.level == level) : Nat) : Int) = M.openN l level) := by unfold Hid; rw [List.take_length]; rfl
  have HCL : Hid (∀ i, (l.take i).countP (fun s => s.level == level) ≤ i) := fun i => Nat.le_trans List.countP_le_length (by rw [List.length_take]; omega)
  obtain ⟨N, hN⟩ : ∃ N, l.length = N := ⟨_, rfl⟩
  have HN := Lib.hid hN
  rw [hN] at HE hl HT HSl ⊢
  clear hN
  go_enter Tryd.func22, Tryd.ntmps22
  go_wp2_with fail
  go_loop [6, 7] (fun t i => ∃ k : Nat, k ≤ N ∧ i = .int .i64 k ∧ t = .int .i64 (1 + (((l.take k).countP (fun s => s.level == level) : Nat) : Int))) (fun _ i => N - (intOf i).toNat)
  case atStart => exact ⟨0, by omega, rfl, rfl⟩
  case round =>
    obtain ⟨k, hk, rfl, rfl⟩ := hrel
    have hcl := HCL.out k
    by_cases hkn : k < N
    · have hkI : (k : Int) < (N : Int) := by omega
      have hk0 : (0 : Int) ≤ (k : Int) := by omega
      obtain ⟨b, off, u, -, rfl, -, hc⟩ := HE.out.at (j := k) (by rw [HN.out]; exact hkn)
      obtain ⟨p0, -⟩ := hc w (Below.refl _ _)
      have HST := M.count_step (level := level) (l := l) (i := k) (by rw [HN.out]; exact hkn)
      obtain ⟨x, hx⟩ : ∃ x, (l[k]'(by rw [HN.out]; exact hkn)).level = x := ⟨_, rfl⟩
      rw [hx] at p0 HST
      obtain ⟨c, hcc⟩ : ∃ c, (l.take k).countP (fun s => s.level == level) = c := ⟨_, rfl⟩
      rw [hcc] at HST hcl ⊢
      have HST := Lib.hid HST
      clear hc hx hcc
      cases h1 : (x == level) with
      | true =>
        have HST2 : Hid ((l.take (k + 1)).countP (fun s => s.level == level) = c + 1) := by unfold Hid; rw [HST.out, h1]; rfl
        clear HST
        go_wp2_with fail
        go_round
        case rel => exact ⟨k + 1, by omega, by go_num, by rw [HST2.out]; go_num⟩
        case measure => simp [intOf]; omega
      | false =>
        have HST2 : Hid ((l.take (k + 1)).countP (fun s => s.level == level) = c) := by unfold Hid; rw [HST.out, h1]; rfl
        clear HST
        go_wp2_with fail
        go_round
        case rel => exact ⟨k + 1, by omega, by go_num, by rw [HST2.out]⟩
        case measure => simp [intOf]; omega
    · have hkI : ¬ ((k : Int) < (N : Int)) := by omega
      obtain rfl : k = N := by omega
      have hcl := HCL.out k
      have htt : Hid (1 + (((l.take k).countP (fun s => s.level == level) : Nat) : Int) = M.openN l level) := HT.out
      obtain ⟨c, hcc⟩ : ∃ c, (l.take k).countP (fun s => s.level == level) = c := ⟨_, rfl⟩
      rw [hcc] at htt hcl ⊢
      clear hcc HT HCL
      obtain ⟨G1, hG1⟩ : ∃ G1, w.heap.size = G1 := ⟨_, rfl⟩
      have HG1 := Lib.hid hG1
      have HO0 := Lib.hid (World.ownsRow_nil w G1 91 5)
      have hG4 : G1 ≤ w.heap.size := Nat.le_of_eq hG1.symm
      clear hG1
      go_wp2_with (at_builtin; go_must (refine wpList_append_sl rfl _ _ 61 rfl G1 91 _ 5 56 Tryd.underlying61 infoS rfl (by decide) _ _ _ rfl HO0.out _ k (sesCells (List.zipWith Ses5.put l us)) rfl HSl.out HOC.out (by unfold maxLen; omega) (by omega) hG4 ?_))
      intro v5 w5 hown5 hgrow hnn
      clear hnn
      have hB5 : Hid (Below G1 w w5) := (Below.refl _ _).grown hgrow hG4 (ownBlock_ge HO0.out)
      have HO6 := Lib.hid (World.ownsRow.alloc hown5 (.cells #[.int .i64 level, .int .i64 (1 + (c : Int)), .slice none 0 0, .int .i64 0, .bool false] 91))
      have HS6 : Hid (Sl (w5.alloc (.cells #[.int .i64 level, .int .i64 (1 + (c : Int)), .slice none 0 0, .int .i64 0, .bool false] 91)) 5 1 (.slice (some ⟨w5.heap.size, 0, none⟩) 1 1) (sesCells [⟨level, 1 + (c : Int), 0, false, .slice none 0 0⟩])) := Sl.lit w5 91 5 1 #[.int .i64 level, .int .i64 (1 + (c : Int)), .slice none 0 0, .int .i64 0, .bool false] (0, 0) rfl (by decide)
      have hB6 : Hid (Below G1 w (w5.alloc (.cells #[.int .i64 level, .int .i64 (1 + (c : Int)), .slice none 0 0, .int .i64 0, .bool false] 91))) := hB5.out.alloc (by have := hB5.out.size; omega) _
      have hG6 : G1 ≤ (w5.alloc (.cells #[.int .i64 level, .int .i64 (1 + (c : Int)), .slice none 0 0, .int .i64 0, .bool false] 91)).heap.size := by have := hB6.out.size; omega
      clear hgrow HO0 hB5 hG4 hown5
      go_wp2_with (at_builtin; go_must (refine wpList_append_sl rfl _ _ 61 rfl G1 91 _ 5 56 Tryd.underlying61 infoS rfl (by decide) _ _ _ rfl HO6.out _ 1 (sesCells [⟨level, 1 + (c : Int), 0, false, .slice none 0 0⟩]) rfl HS6.out (ses_oneCell (by intro r hr; rw [List.mem_singleton] at hr; subst hr; exact ⟨_, _, _, rfl⟩)) (by unfold maxLen; omega) (by omega) hG6 ?_))
      intro v7 w7 hown7 hgrow hnn
      clear hnn
      have hB7 : Hid (Below G1 w w7) := hB6.out.grown hgrow hG6 (ownBlock_ge HO6.out)
      rw [ses_append] at hown7
      have HO7 := Lib.hid hown7
      clear hown7 hgrow HO6 HS6 hB6 hG6
      go_wp2_with fail
      go_ret2
      have hb7 : Below w.heap.size w w7 := by rw [HG1.out]; exact hB7.out
      have hop : M.openS l level = l ++ [⟨level, 1 + (c : Int), 0, false, []⟩] := by unfold M.openS; rw [← htt.out]
      refine ⟨_, us ++ [.slice none 0 0], by rw [htt.out]; rfl, ?_, hb7⟩
      rw [hop]
      refine Sv.fz (base := G1) (n := k + 1) ?_ (by simp [HLU.out]) (by simp [HN.out]) (by rw [← HG1.out]; exact HGG.out) ?_
      · rw [List.zipWith_append (by rw [HLU.out])]
        exact HO7.out
      · intro W hW i h1 h2
        rcases Nat.lt_or_ge i l.length with h3 | h3
        · rw [List.getElem_append_left (by rw [HLU.out]; exact h3), List.getElem_append_left h3]
          exact HH.out W ((Ex.of_below hb7).trans hW) i (by rw [HLU.out]; exact h3) h3
        · have : i = l.length := by simp at h2; omega
          subst this
          rw [List.getElem_append_right (by rw [HLU.out]; exact Nat.le_refl _), List.getElem_append_right (Nat.le_refl _)]
          simp only [HLU.out, Nat.sub_self, List.getElem_cons_zero]
          exact Sl.nil _ 1
end Go.Proofs.YtmapmeacjpoaoaaDoor
namespace Go.Proofs.YtmapmeacjpoaoaaDoor
open Go Go.RowKit

/-- Sessions of which one is another one. -/
theorem Sv.set {G : Nat → Prop} {w w' : World} {v v' u : Value} {us : List Value} {l : List Ses} {i : Nat} {s : Ses} (h : Fz G w (fun W => Sv W v us l)) (hG : ∀ k, G k → k < w.heap.size) (hi : i < l.length) {n : Nat} (hn : n = l.length)
    (own : w'.ownsRow w.heap.size 91 5 v' n (sesCells ((List.zipWith Ses5.put l us).set i (s.put u)))) (hb : Below w.heap.size w w') (hu : Fz G w' (fun W => Zs W u s.snaps)) : Fz G w' (fun W => Sv W v' (us.set i u) (l.set i s)) := by
  have hl := h.here.len
  refine Sv.fz (base := w.heap.size) (n := n) (by rw [zip_set]; exact own) (by simp [hl]) (by simp [hn]) hG ?_
  intro W hW j h1 h2
  rw [List.getElem_set, List.getElem_set]
  split
  · exact hu W hW
  · exact (h W ((Ex.of_below hb).trans hW)).each j (by simpa using h1) (by simpa using h2)

set_option maxHeartbeats 1000000 in
theorem sclose_any (G : Nat → Prop) (v : Value) (us : List Value) (l : List Ses) (level n : Int) (w : World) (h : Fz G w (fun W => Sv W v us l)) (hG : ∀ k, G k → k < w.heap.size) (hl : l.length ≤ 1000) :
    Calls Tryd.prog 58 #[v, .int .i64 level, .int .i64 n] w fun e w' => ∃ v' us' b, e = .returned (.tuple #[v', .bool b]) ∧ Fz G w' (fun W => Sv W v' us' (M.close l level n)) ∧ Below w.heap.size w w' := by
  have h2 := h.here
  have hz : (List.zipWith Ses5.put l us).length = l.length := by simp [h2.len]
  have HF := Lib.hid (sfind_any v us l level n w h2)
  cases hf : l.findIdx? (M.isS level n) with
  | none =>
    rw [hf, show M.idxI none = -1 from rfl] at HF
    have hr : M.close l level n = l := by unfold M.close; rw [hf]
    rw [hr]
    have HH := Lib.hid h
    clear hf hr h h2 hz hG
    go_enter Tryd.func58, Tryd.ntmps58
    go_wp2_with fail
    refine HF.out.mono ?_
    rintro e w' ⟨rfl, rfl⟩
    go_wp2_with fail
    go_ret2
    exact ⟨_, _, _, rfl, HH.out, Below.refl _ _⟩
  | some i =>
    obtain ⟨hi, -⟩ := List.findIdx?_eq_some_iff_getElem.1 hf
    rw [hf, show M.idxI (some i) = (i : Int) from rfl] at HF
    have hr : M.close l level n = l.set i ⟨level, n, 0, true, []⟩ := by unfold M.close; rw [hf]
    rw [hr]
    have st := swith_any v (List.zipWith Ses5.put l us) i level n 0 true none 0 0 w (by rw [hz]; exact h2.sl) h2.raw (by rw [hz]; exact hi) (by rw [hz]; exact hl)
    rw [hz] at st
    have st := Lib.hid st
    have HH := Lib.hid h
    have HG := Lib.hid hG
    have HI := Lib.hid hi
    have hi0 : (0 : Int) ≤ (i : Int) := by omega
    clear hf hr h h2 hz hG hi
    go_enter Tryd.func58, Tryd.ntmps58
    go_wp2_with fail
    refine HF.out.mono ?_
    rintro e w' ⟨rfl, rfl⟩
    clear HF
    go_wp2_with fail
    refine st.out.mono ?_
    rintro e w2 ⟨v2, rfl, hown, hb⟩
    have hfin := Lib.hid (Sv.set (s := ⟨level, n, 0, true, []⟩) (u := .slice none 0 0) HH.out HG.out HI.out rfl hown hb (fun W _ => Sl.nil W 1))
    have hb := Lib.hid hb
    clear hown st HH
    go_wp2_with fail
    go_ret2
    exact ⟨_, _, _, rfl, hfin.out, hb.out⟩

/-- A session in a block of its own. -/
def Sb (w : World) (B : Nat) (r : Ses5 Value) : Prop := w.heap[B]? = some (.cells #[.int .i64 r.level, .int .i64 r.n, r.snaps, .int .i64 r.last, .bool r.gone] 91 (0, 0))
theorem Sb.lt {w : World} {B : Nat} {r : Ses5 Value} (h : Sb w B r) : B < w.heap.size := (Array.getElem?_eq_some_iff.1 h).1
theorem Sb.cells {w : World} {B : Nat} {r : Ses5 Value} (h : Sb w B r) : w.cell? ⟨B, 0, none⟩ = some (.int .i64 r.level) ∧ w.cell? ⟨B, 1, none⟩ = some (.int .i64 r.n) ∧ w.cell? ⟨B, 2, none⟩ = some r.snaps ∧ w.cell? ⟨B, 3, none⟩ = some (.int .i64 r.last) ∧ w.cell? ⟨B, 4, none⟩ = some (.bool r.gone) :=
  ⟨cell_of_row w B 0 _ _ (0, 0) h, cell_of_row w B 1 _ _ (0, 0) h, cell_of_row w B 2 _ _ (0, 0) h, cell_of_row w B 3 _ _ (0, 0) h, cell_of_row w B 4 _ _ (0, 0) h⟩
theorem Sb.frozen {w : World} {B : Nat} {r : Ses5 Value} (h : Sb w B r) (i : Nat) : w.frozen? ⟨B, i, none⟩ = false := by
  unfold Sb at h
  simp [World.frozen?, h]
theorem Sb.set2 {w : World} {B : Nat} {r : Ses5 Value} (h : Sb w B r) (u : Value) : Sb (w.setCell ⟨B, 2, none⟩ u) B ⟨r.level, r.n, r.last, r.gone, u⟩ := by
  unfold Sb at h ⊢
  simp [World.setCell, Array.getElem?_modify, h]
theorem Sb.set3 {w : World} {B : Nat} {r : Ses5 Value} (h : Sb w B r) (x : Int) : Sb (w.setCell ⟨B, 3, none⟩ (.int .i64 x)) B ⟨r.level, r.n, x, r.gone, r.snaps⟩ := by
  unfold Sb at h ⊢
  simp [World.setCell, Array.getElem?_modify, h]
theorem Sb.later {w w' : World} {B : Nat} {r : Ses5 Value} (h : Sb w B r) (hb : Below w.heap.size w w') : Sb w' B r := (hb.block B h.lt).trans h
theorem Sb.below {w w' : World} {B G : Nat} {r : Ses5 Value} (h : Sb w B r) (hb : Below G w w') (hB : B < G) : Sb w' B r := (hb.block B hB).trans h
theorem Sb.new (w : World) (r : Ses5 Value) : Sb (w.alloc (.cells #[.int .i64 r.level, .int .i64 r.n, r.snaps, .int .i64 r.last, .bool r.gone] 91)) w.heap.size r := heap_alloc_new w _
def intsV (l : List Int) : List Value := l.map (Value.int .i64)
theorem ints_oneCell (l : List Int) : ∀ u ∈ intsV l, u.oneCell' = true := by
  intro u hu
  obtain ⟨_, _, rfl⟩ := List.mem_map.1 hu
  rfl
theorem modify_set {α : Type} (f : α → α) (l : List α) (i : Nat) (h : i < l.length) : l.modify i f = l.set i (f l[i]) := by
  apply List.ext_getElem
  · simp
  · intro j h1 h2
    rw [List.getElem_modify, List.getElem_set]
    split
    · rename_i h3; subst h3; rfl
    · rfl
end Go.Proofs.YtmapmeacjpoaoaaDoor
namespace Go.Proofs.YtmapmeacjpoaoaaDoor
open Go Go.RowKit

set_option maxHeartbeats 2000000 in
theorem ssnap_any (G : Nat → Prop) (v : Value) (us : List Value) (l : List Ses) (level n : Int) (w : World) (h : Fz G w (fun W => Sv W v us l)) (hG : ∀ k, G k → k < w.heap.size) (hl : l.length ≤ 1000) (h1 : ∀ s ∈ l, s.snaps.length ≤ 1000 ∧ 0 ≤ s.last ∧ s.last ≤ 1000) :
    Calls Tryd.prog 52 #[v, .int .i64 level, .int .i64 n] w fun e w' => ∃ v' us', e = .returned (.tuple #[v', .int .i64 (M.snapN l level n)]) ∧ Fz G w' (fun W => Sv W v' us' (M.snapS l level n)) ∧ Below w.heap.size w w' := by
  have h2 := h.here
  have hz : (List.zipWith Ses5.put l us).length = l.length := by simp [h2.len]
  have HF := Lib.hid (sfind_any v us l level n w h2)
  cases hf : l.findIdx? (M.isS level n) with
  | none =>
    rw [hf, show M.idxI none = -1 from rfl] at HF
    have hr : M.snapS l level n = l := by unfold M.snapS; rw [hf]
    have hr2 : M.snapN l level n = 0 := by unfold M.snapN; rw [hf]
    rw [hr, hr2]
    have HH := Lib.hid h
    clear hf hr hr2 h h2 hz hG h1
    go_enter Tryd.func52, Tryd.ntmps52
    go_wp2_with fail
    refine HF.out.mono ?_
    rintro e w' ⟨rfl, rfl⟩
    go_wp2_with fail
    go_ret2
    exact ⟨_, _, rfl, HH.out, Below.refl _ _⟩
  | some i =>
    obtain ⟨hi, -⟩ := List.findIdx?_eq_some_iff_getElem.1 hf
    rw [hf, show M.idxI (some i) = (i : Int) from rfl] at HF
    have hr : M.snapS l level n = l.set i (M.more l[i]) := by unfold M.snapS; rw [hf]; exact modify_set _ _ _ hi
    have hr2 : M.snapN l level n = l[i].last + 1 := by unfold M.snapN; simp [hf, hi]
    rw [hr, hr2]
    obtain ⟨hs1, hs2, hs3⟩ := h1 l[i] (List.getElem_mem hi)
    obtain ⟨ao, cap, rfl, -⟩ := h2.sl.shape
    obtain ⟨b, off, u, hu, rfl, hzs, hc⟩ := h2.at (j := i) hi
    have HMore : Hid (M.more l[i] = ⟨l[i].level, l[i].n, l[i].last + 1, l[i].gone, l[i].snaps ++ [l[i].last + 1]⟩) := rfl
    have HW : Hid (∀ W (hW : Below w.heap.size w W) (x0 x1 x3 : Int) (x4 : Bool) (a : Option Addr) (n c : Nat), Calls Tryd.prog 73 #[.slice (some ⟨b, off, none⟩) l.length cap, .int .i64 i, .agg #[.int .i64 x0, .int .i64 x1, .slice a n c, .int .i64 x3, .bool x4]] W fun e w' => ∃ v', e = .returned v' ∧ w'.ownsRow W.heap.size 91 5 v' l.length (sesCells ((List.zipWith Ses5.put l us).set i ⟨x0, x1, x3, x4, .slice a n c⟩)) ∧ Below W.heap.size W w') := fun W hW x0 x1 x3 x4 a n c => by
      have st := swith_any (.slice (some ⟨b, off, none⟩) l.length cap) (List.zipWith Ses5.put l us) i x0 x1 x3 x4 a n c W (by rw [hz]; exact h2.sl.below hW) h2.raw (by rw [hz]; exact hi) (by rw [hz]; exact hl)
      rw [hz] at st
      exact st
    have HH := Lib.hid h
    have HG := Lib.hid hG
    have HI := Lib.hid hi
    have hi0 : (0 : Int) ≤ (i : Int) := by omega
    have hiI : (i : Int) < (l.length : Int) := by omega
    obtain ⟨p0, p1, p2, p3, p4⟩ := hc w (Below.refl _ _)
    obtain ⟨s, hs⟩ : ∃ s, l[i]'hi = s := ⟨_, rfl⟩
    rw [hs] at hs1 hs2 hs3 p0 p1 p3 p4 hzs HMore ⊢
    obtain ⟨N, hN⟩ : ∃ N, l.length = N := ⟨_, rfl⟩
    have HN := Lib.hid hN
    rw [hN] at HF HW HH hiI ⊢
    obtain ⟨au, cu, rfl, -⟩ := Sl.shape hzs
    obtain ⟨s0, s1, s3, s4, s2⟩ := s
    simp only [] at hs1 hs2 hs3 p0 p1 p3 p4 hzs HMore ⊢
    obtain ⟨m, hm⟩ : ∃ m, s2.length = m := ⟨_, rfl⟩
    have HM := Lib.hid hm
    have hzs : Sl w 1 m (.slice au s2.length cu) (intsV s2) := by rw [← hm]; exact hzs
    rw [hm] at hs1 p2 hzs
    have HB1 : Hid (Below w.heap.size w (w.alloc (.cells #[.int .i64 s0, .int .i64 s1, .slice au m cu, .int .i64 s3, .bool s4] 91))) := (Below.refl _ _).alloc (Nat.le_refl _) _
    have HS1 : Hid (Sb (w.alloc (.cells #[.int .i64 s0, .int .i64 s1, .slice au m cu, .int .i64 s3, .bool s4] 91)) w.heap.size ⟨s0, s1, s3, s4, .slice au m cu⟩) := Sb.new w ⟨s0, s1, s3, s4, .slice au m cu⟩
    obtain ⟨w1, hw1⟩ : ∃ w1, w.alloc (.cells #[.int .i64 s0, .int .i64 s1, .slice au m cu, .int .i64 s3, .bool s4] 91) = w1 := ⟨_, rfl⟩
    rw [hw1] at HB1 HS1
    have HZ := Lib.hid (hzs.below HB1.out)
    obtain ⟨B, hB⟩ : ∃ B, w.heap.size = B := ⟨_, rfl⟩
    rw [hB] at HS1
    obtain ⟨G1, hG1⟩ : ∃ G1, w1.heap.size = G1 := ⟨_, rfl⟩
    have HG1 := Lib.hid hG1
    have hBG : B < G1 := by rw [← hG1]; exact HS1.out.lt
    have hG4 : G1 ≤ w1.heap.size := Nat.le_of_eq hG1.symm
    have HO0 := Lib.hid (World.ownsRow_nil w1 G1 3 1)
    have HBB := Lib.hid hB
    obtain ⟨g0, g1, g2, g3, g4⟩ := HS1.out.cells
    clear hf hr hr2 h h2 hG h1 hc hu hs hN hm hzs hG1
    go_enter Tryd.func52, Tryd.ntmps52
    go_wp2_with fail
    refine HF.out.mono ?_
    rintro e w' ⟨rfl, rfl⟩
    clear HF
    go_wp2_with (at_builtin; go_must (refine wpList_append_sl rfl _ _ 24 rfl G1 3 _ 1 8 Tryd.underlying24 infoI64 rfl (by decide) _ _ _ rfl HO0.out _ m (intsV s2) rfl HZ.out (ints_oneCell _) (by unfold maxLen; omega) (by omega) hG4 ?_))
    intro v5 w5 hown5 hgrow hnn
    clear hnn hB hw1 p0 p1 p2 p3 p4 g0 g1 g2 g3 g4
    have hB5 : Below G1 w1 w5 := (Below.refl _ _).grown hgrow hG4 (ownBlock_ge HO0.out)
    obtain ⟨-, -, -, g3, -⟩ := (HS1.out.below hB5 hBG).cells
    have hG5 : G1 ≤ w5.heap.size := Nat.le_trans hG4 hB5.size
    have HO6 := Lib.hid (World.ownsRow.alloc hown5 (.cells #[.int .i64 (s3 + 1)] 3))
    have HS6 : Hid (Sl (w5.alloc (.cells #[.int .i64 (s3 + 1)] 3)) 1 1 (.slice (some ⟨w5.heap.size, 0, none⟩) 1 1) (intsV [s3 + 1])) := Sl.lit w5 3 1 1 #[.int .i64 (s3 + 1)] (0, 0) rfl (by decide)
    have HB6 : Hid (Below G1 w1 (w5.alloc (.cells #[.int .i64 (s3 + 1)] 3))) := hB5.alloc hG5 _
    have hG6 : G1 ≤ (w5.alloc (.cells #[.int .i64 (s3 + 1)] 3)).heap.size := by simp; omega
    clear hown5 hgrow HO0 hB5 hG5 hG4
    go_wp2_with (at_builtin; go_must (refine wpList_append_sl rfl _ _ 24 rfl G1 3 _ 1 8 Tryd.underlying24 infoI64 rfl (by decide) _ _ _ rfl HO6.out _ 1 (intsV [s3 + 1]) rfl HS6.out (ints_oneCell _) (by unfold maxLen; omega) (by omega) hG6 ?_))
    intro v7 w7 hown7 hgrow hnn
    clear hnn g3
    have hB7 : Below G1 w1 w7 := HB6.out.grown hgrow hG6 (ownBlock_ge HO6.out)
    have HS7 := HS1.out.below hB7 hBG
    obtain ⟨a7, c7, rfl, -⟩ := (Sl.of_owns hown7).shape
    obtain ⟨-, -, g2, -, -⟩ := HS7.cells
    have f2 := HS7.frozen 2
    have HS8 := HS7.set2 (.slice a7 (m + 1) c7)
    obtain ⟨-, -, -, g3, -⟩ := HS8.cells
    have f3 := HS8.frozen 3
    have HS9 := HS8.set3 (s3 + 1)
    simp only [] at HS8 HS9 g3 g2
    have HO9 : Hid (((w7.setCell ⟨B, 2, none⟩ (.slice a7 (m + 1) c7)).setCell ⟨B, 3, none⟩ (.int .i64 (s3 + 1))).ownsRow G1 3 1 (.slice a7 (m + 1) c7) (m + 1) (intsV (s2 ++ [s3 + 1]))) := by
      have e1 : ∀ k, Value.ownBlock (.slice a7 (m + 1) c7) = some k → ¬ (k = B) := fun k hk e => by have := ownBlock_ge hown7 k hk; omega
      have := own_ex (own_ex hown7 e1 (Ex.setCell (G := fun k => k = B) w7 B 2 rfl (.slice a7 (m + 1) c7))) e1 (Ex.setCell (G := fun k => k = B) _ B 3 rfl (.int .i64 (s3 + 1)))
      unfold Hid
      simpa [intsV] using this
    have HB9 : Hid (Below w.heap.size w ((w7.setCell ⟨B, 2, none⟩ (.slice a7 (m + 1) c7)).setCell ⟨B, 3, none⟩ (.int .i64 (s3 + 1)))) := by
      have := HB1.out.trans (hB7.mono (by have := HB1.out.size; rw [HG1.out] at this; exact this))
      exact (this.setCell (p := ⟨B, 2, none⟩) (by show w.heap.size ≤ B; rw [HBB.out]; exact Nat.le_refl _) _).setCell (p := ⟨B, 3, none⟩) (by show w.heap.size ≤ B; rw [HBB.out]; exact Nat.le_refl _) _
    have HS9 := Lib.hid HS9
    clear hown7 hgrow HO6 HS6 HB6 hG6 hB7 HS7 HS8 HB1 HS1 HZ hzs
    go_wp2_with fail
    clear f2 f3 g2 g3
    generalize ((w7.setCell ⟨B, 2, none⟩ (.slice a7 (m + 1) c7)).setCell ⟨B, 3, none⟩ (.int .i64 (s3 + 1))) = w9 at *
    refine wp_region_mix ext_grow [(0, false), (1, false), (2, false), (4, false), (5, false), (3, true), (6, false), (7, false)] (by kernel_rfl) (by kernel_rfl) ?_
    have HT : Hid (Sb w9.drew B ⟨s0, s1, s3 + 1, s4, .slice a7 (m + 1) c7⟩) := HS9.out
    have HO : Hid (w9.drew.ownsRow G1 3 1 (.slice a7 (m + 1) c7) (m + 1) (intsV (s2 ++ [s3 + 1]))) := HO9.out
    have HB : Hid (Below w.heap.size w w9.drew) := HB9.out.drew
    clear HS9 HO9 HB9
    generalize w9.drew = w10 at *
    have k0 : ∀ z : Later w10, z.1.cell? ⟨B, 0, none⟩ = some (.int .i64 s0) := fun z => (HT.out.later z.2).cells.1
    have k1 : ∀ z : Later w10, z.1.cell? ⟨B, 1, none⟩ = some (.int .i64 s1) := fun z => (HT.out.later z.2).cells.2.1
    have k2 : ∀ z : Later w10, z.1.cell? ⟨B, 2, none⟩ = some (.slice a7 (m + 1) c7) := fun z => (HT.out.later z.2).cells.2.2.1
    have k3 : ∀ z : Later w10, z.1.cell? ⟨B, 3, none⟩ = some (.int .i64 (s3 + 1)) := fun z => (HT.out.later z.2).cells.2.2.2.1
    have k4 : ∀ z : Later w10, z.1.cell? ⟨B, 4, none⟩ = some (.bool s4) := fun z => (HT.out.later z.2).cells.2.2.2.2
    repeat (refine mix_soft rfl (fun K hK => ?_); go_simp; (first | (refine hK _ ?_; clear hK K) | (apply Exists.intro; refine ⟨fun z => ?_, hK _ ?_⟩; (first | done); clear hK K)))
    clear k0 k1 k2 k3 k4
    refine mix_loud rfl (fun K hK => ?_)
    go_simp
    intro x
    refine (HW.out x.1 (below_next HB.out x.2) s0 s1 (s3 + 1) s4 a7 (m + 1) c7).mono ?_
    rintro e w11 ⟨v11, rfl, hown, hbel⟩
    refine ⟨_, rfl, hbel, hK _ _ ?_⟩
    clear hK K HW
    have hx11 : Below w10.heap.size w10 w11 := below_next x.2 hbel
    have HB11 := Lib.hid (below_next HB.out hx11)
    replace hown := Lib.hid (ownsRow.base hown (below_next HB.out x.2).size)
    have HO11 := Lib.hid (ownsRow.below HO.out hx11)
    clear hx11 hbel x HB HO HT
    repeat (refine mix_soft rfl (fun K hK => ?_); go_simp; (first | (refine hK _ ?_; clear hK K) | (apply Exists.intro; refine ⟨fun z => ?_, hK _ ?_⟩; (first | done); clear hK K)))
    refine mix_done fun w12 hx => ?_
    have HB12 := Lib.hid (below_next HB11.out hx)
    replace hown := Lib.hid (ownsRow.below hown.out hx)
    have HO12 := Lib.hid (ownsRow.below HO11.out hx)
    clear hx HB11 HO11
    go_wp2_with fail
    go_ret2
    refine ⟨_, us.set i (.slice a7 (m + 1) c7), rfl, ?_, HB12.out⟩
    rw [HMore.out]
    refine Sv.set (s := ⟨s0, s1, s3 + 1, s4, s2 ++ [s3 + 1]⟩) (u := .slice a7 (m + 1) c7) HH.out HG.out HI.out HN.out.symm hown.out HB12.out ?_
    have hZ := Fz.own HO12.out (fun k hk => by have := HG.out k hk; rw [HBB.out] at this; omega)
    refine hZ.imp fun W h => ?_
    unfold Zs
    simp only [List.length_append, HM.out, List.length_singleton]
    exact h
end Go.Proofs.YtmapmeacjpoaoaaDoor
