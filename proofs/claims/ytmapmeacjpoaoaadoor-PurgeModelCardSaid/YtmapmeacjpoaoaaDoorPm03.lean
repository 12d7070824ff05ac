/- 'for x := range f': a range over a function whose iterator writes cells of its own between two rounds. The statement's law, at an outermost loop and at one within a round; out of the machine's steps (Derived/RangeFuncIn, RangeFuncRecord). No program. What lattice.each's iterator hands over: the bits that are 1, rising. What lattice.List returns: the bits that are 1, rising. What the comparisons of two rows of numbers return. Printed by wip/mkeq.py. What jalousieref03.Join, turned and Meet return. The labels ahead of each operation: plain, and what the reference's Sets returns. A statement whose order Go leaves open, by two relations: S, what may happen between two operations (the soft ones do no more); R, which the loud ones keep, and in which the soft ones' facts hold. One walk in one order serves every order. (XMix is the case S = R.) No program. -/
import Derived.Test.YtmapmeacjpoaoaaDoorPm02
import Derived.RangeFuncNested
import Derived.RangeFuncLeaves
import Derived.RangeFuncCalls
import Derived.RangeFuncBound
import Derived.Shelf.Abstract
import Derived.Shelf.RegionOpen
import Derived.OwnWalkIn
import Derived.TacticsInMore
import Derived.LoopNIn
import Derived.LoopIn
import Derived.RangeFuncBox
import Derived.Maps.AppendAt
import Derived.BigQuiet
import Derived.Deep.QuietTactic
import Derived.Laws.AppendOwn
namespace Go.Proofs.YtmapmeacjpoaoaaDoor
open Go Go.RowKit

section
variable {F : Fence} {n : Nat} {P : Program} {α : Type}

/-- The iterator gf (which has captured lb), called with a loop's yield: it hands over encs x, one after the other; between two rounds it turns the world by T alone; Kp: what a round that goes on must keep for it; S: all have come; Sp: a round has said 'no more'. -/
def IterIn (F : Fence) (n : Nat) (P : Program) (gf : Nat) (lb : Array Value) (encs : α → Array Value) (T Kp : World → World → Prop) (Ok : List α → α → Prop) (S Sp : List α → Prop) (Start : World → Prop) : Prop :=
  ∀ (l : Nat) (J Jx : List α → World → Prop) (W : World), Start W → (∀ s A B, J s A → T A B → J s B) →
    (∀ pre x W1, J pre W1 → Ok pre x → YieldAt F (n - 1) P l (encs x) W1 fun e W' =>
      (e = .returned (.bool true) ∧ J (pre ++ [x]) W' ∧ Kp W1 W') ∨ (e = .returned (.bool false) ∧ Jx (pre ++ [x]) W')) →
    J [] W →
    CallsIn F n P gf (#[.func (.yield l) #[] #[]] ++ lb) W fun e W' => (∃ v, e = .returned v) ∧ ((∃ xs, S xs ∧ J xs W') ∨ (∃ pre, Sp pre ∧ Jx pre W'))

/-- How a round's body is left: from the world W, in which the round began, the body in W2. -/
def roundOut (B : Nat) (Kp : World → World → Prop) (I : List α → World → Prop) (Ix : Code → List α → World → Prop) (xs : List α) (W W2 : World) : Exit → Act → World → Prop
  | .normal, _, W' => KeepsFrom B W2 W' ∧ Kp W W' ∧ I xs W'
  | .ret, _, W' => KeepsFrom B W2 W' ∧ Ix .ret xs W'
  | .exit id, _, W' => KeepsFrom B W2 W' ∧ Ix (.exit id) xs W'
  | .goto t, _, W' => KeepsFrom B W2 W' ∧ Ix (.goto t) xs W'
  | .panic _, _, _ => False
  | .outgrown, _, _ => False

/-- The loop's record. -/
def recOf (fn : FuncId) (tmps : Array Value) (ps : Array Tmp) (assign body : Code) (d : Nat) (st : LoopState) (pe : Option Code) : Loop :=
  { state := st, pending := pe, fn, tmps, params := ps, assign, body, defers := d }

/-- The block of a loop's deferred calls, where there is one. -/
def markAt (D : Option Nat) (W : World) : Prop := ∀ d, D = some d → W.heap[d]? = some (.deferred (some []))

theorem markAt_keeps {D : Option Nat} {B : Nat} {W W' : World} (h : markAt D W) (hk : KeepsFrom B W W') (hB : ∀ d, D = some d → B ≤ d) : markAt D W' :=
  fun d hd => hk.same d _ (hB d hd) (h d hd) rfl
theorem markAt_put {D : Option Nat} {l : Nat} {o : Obj} {W : World} (h : markAt D W) (hl : ∀ d, D = some d → d ≠ l) : markAt D (W.putObj l o) :=
  fun d hd => (World.putObj_heap_other (hl d hd)).trans (h d hd)

/-- A round, as the iterator's call of yield meets it. -/
theorem round_yield {fn : FuncId} {tmps : Array Value} {ps : Array Tmp} {assign body : Code} {encs : α → Array Value} {B l dd : Nat} {D : Option Nat} {m : Nat} {Kp : World → World → Prop} {I : List α → World → Prop} {Ix : Code → List α → World → Prop} {Ok : List α → α → Prop}
    (hfn : F.fn fn) (hps : ∀ x, (encs x).size = ps.size) (hBl : B ≤ l) (hDB : ∀ d, D = some d → B ≤ d) (hDl : ∀ d, D = some d → d ≠ l)
    (hKt : ∀ {A B C : World}, Kp A B → Kp B C → Kp A C) (hKb : ∀ (W : World) (o : Obj), Kp W (W.putObj l o))
    (hIb : ∀ s W o o', I s W → W.heap[l]? = some o → o.isCells = false → I s (W.putObj l o'))
    (hIxb : ∀ c s W o o', Ix c s W → W.heap[l]? = some o → o.isCells = false → Ix c s (W.putObj l o'))
    (hround : ∀ pre x W, (∃ r, W.heap[l]? = some (.loop r)) → I pre W → Ok pre x →
      assign.wpIn (F.inRound l) m P (Exit.then (fun a₁ W₁ => KeepsFrom B W W₁ ∧ ∀ r', body.wpIn (F.inRound l) m P (roundOut B Kp I Ix (pre ++ [x]) W (W₁.putObj l (.loop r'))) a₁ (W₁.putObj l (.loop r'))) (fun _ _ _ => False))
        { tmps := (ps.zip (encs x)).foldl (fun t (p, v) => t.setIfInBounds p v) tmps, defers := [] } W) :
    ∀ pre x W1, (I pre W1 ∧ W1.heap[l]? = some (.loop (recOf fn tmps ps assign body dd .ready none)) ∧ markAt D W1) → Ok pre x →
      YieldAt F m P l (encs x) W1 fun e W' =>
        (e = .returned (.bool true) ∧ (I (pre ++ [x]) W' ∧ W'.heap[l]? = some (.loop (recOf fn tmps ps assign body dd .ready none)) ∧ markAt D W') ∧ Kp W1 W') ∨
        (e = .returned (.bool false) ∧ (∃ c, Ix c (pre ++ [x]) W' ∧ W'.heap[l]? = some (.loop (recOf fn tmps ps assign body dd .done (some c))) ∧ markAt D W')) := by
  rintro pre x W1 ⟨hi, hl, hD⟩ hok
  have hy := run_yield (P := P) (args := encs x) hl (hps x)
  refine ⟨fn, _, assign, body, hy, roundIn_of_wpIn hfn (wpIn_mono (hround pre x W1 ⟨_, hl⟩ hi hok) ?_)⟩
  intro e a₁ W₂ h
  cases e with
  | normal =>
    obtain ⟨hk, hbody⟩ := h
    have hl2 : W₂.heap[l]? = some (.loop (recOf fn tmps ps assign body dd .ready none)) := hk.same l _ hBl hl rfl
    have hD2 := markAt_keeps hD hk hDB
    refine ⟨_, run_beginRound hl2 rfl, wpIn_mono (hbody _) ?_⟩
    have hlt : l < W₂.heap.size := (Array.getElem?_eq_some_iff.1 hl2).1
    have fin : ∀ (jump : Option Code) (W3 : World), KeepsFrom B (W₂.putObj l (.loop { recOf fn tmps ps assign body dd .ready none with state := .busy })) W3 →
        (Instr.endRound l jump).run P W3 = .ok (.bool jump.isNone) (W3.putObj l (.loop (recOf fn tmps ps assign body dd (if jump.isNone then .ready else .done) jump))) ∧
        W3.heap[l]? = some (.loop { recOf fn tmps ps assign body dd .ready none with state := .busy }) ∧
        (W3.putObj l (.loop (recOf fn tmps ps assign body dd (if jump.isNone then .ready else .done) jump))).heap[l]? = some (.loop (recOf fn tmps ps assign body dd (if jump.isNone then .ready else .done) jump)) ∧
        markAt D (W3.putObj l (.loop (recOf fn tmps ps assign body dd (if jump.isNone then .ready else .done) jump))) := by
      intro jump W3 hk3
      have h3 := hk3.same l _ hBl (World.putObj_heap_same hlt) rfl
      exact ⟨run_endRound jump h3, h3, World.putObj_heap_same (Array.getElem?_eq_some_iff.1 h3).1, markAt_put (markAt_keeps (markAt_put hD2 hDl) hk3 hDB) hDl⟩
    intro e3 a3 W3 h3
    cases e3 with
    | normal =>
      obtain ⟨hk3, hkp, hi3⟩ := h3
      obtain ⟨r1, r2, r3, r4⟩ := fin none W3 hk3
      exact ⟨_, _, r1, .inl ⟨rfl, ⟨hIb _ _ _ _ hi3 r2 rfl, r3, r4⟩, hKt hkp (hKb _ _)⟩⟩
    | ret =>
      obtain ⟨hk3, hi3⟩ := h3
      obtain ⟨r1, r2, r3, r4⟩ := fin (some .ret) W3 hk3
      exact ⟨_, _, r1, .inr ⟨rfl, .ret, hIxb _ _ _ _ _ hi3 r2 rfl, r3, r4⟩⟩
    | exit id =>
      obtain ⟨hk3, hi3⟩ := h3
      obtain ⟨r1, r2, r3, r4⟩ := fin (some (.exit id)) W3 hk3
      exact ⟨_, _, r1, .inr ⟨rfl, .exit id, hIxb _ _ _ _ _ hi3 r2 rfl, r3, r4⟩⟩
    | goto t =>
      obtain ⟨hk3, hi3⟩ := h3
      obtain ⟨r1, r2, r3, r4⟩ := fin (some (.goto t)) W3 hk3
      exact ⟨_, _, r1, .inr ⟨rfl, .goto t, hIxb _ _ _ _ _ hi3 r2 rfl, r3, r4⟩⟩
    | panic ch => exact h3.elim
    | outgrown => exact h3.elim
  | ret => exact h.elim
  | exit id => exact h.elim
  | goto t => exact h.elim
  | panic ch => exact h.elim
  | outgrown => exact h.elim

/-- The statement at an outermost loop. -/
theorem range_outer {g : Operand} {ps : Array Tmp} {assign body : Code} {Q : Exit → Act → World → Prop} {a : Act} {w : World}
    (hro : F.round = none) (h1 : 1 ≤ n) {gf : Nat} {lb : Array Value} (hg : a.eval g = .func (.func gf) #[] lb) (hFg : F.fn gf) (eg : ∀ args w, (callFunc gf args).run P w = .ok (.enter gf args) w)
    {encs : α → Array Value} {T Kp : World → World → Prop} {Ok : List α → α → Prop} {S Sp : List α → Prop} {Start : World → Prop} (hit : IterIn F (n - 1) P gf lb encs T Kp Ok S Sp Start) (hps : ∀ x, (encs x).size = ps.size)
    (hTo : ∀ (A B : World) (k : Nat) (o : Obj), T A B → A.heap[k]? = some o → o.isCells = false → B.heap[k]? = some o)
    (hKt : ∀ {A B C : World}, Kp A B → Kp B C → Kp A C) (hKb : ∀ (W : World) (l : Nat) (o : Obj), w.heap.size ≤ l → Kp W (W.putObj l o))
    (I : List α → World → Prop) (Ix : Code → List α → World → Prop)
    (hIT : ∀ s A B, I s A → T A B → I s B)
    (hIb : ∀ s W l o o', w.heap.size ≤ l → I s W → W.heap[l]? = some o → o.isCells = false → I s (W.putObj l o'))
    (hIxb : ∀ c s W l o o', w.heap.size ≤ l → Ix c s W → W.heap[l]? = some o → o.isCells = false → Ix c s (W.putObj l o'))
    (h0 : ∀ r, I [] ((w.alloc (.deferred (some []))).alloc (.loop r))) (hstart : ∀ r, Start ((w.alloc (.deferred (some []))).alloc (.loop r)))
    (hround : ∀ l pre x W, w.heap.size ≤ l → (∃ r, W.heap[l]? = some (.loop r)) → I pre W → Ok pre x →
      assign.wpIn (F.inRound l) (n - 1 - 1) P (Exit.then (fun a₁ W₁ => KeepsFrom w.heap.size W W₁ ∧ ∀ r', body.wpIn (F.inRound l) (n - 1 - 1) P (roundOut w.heap.size Kp I Ix (pre ++ [x]) W (W₁.putObj l (.loop r'))) a₁ (W₁.putObj l (.loop r'))) (fun _ _ _ => False))
        { tmps := (ps.zip (encs x)).foldl (fun t (p, v) => t.setIfInBounds p v) a.tmps, defers := [] } W)
    (hdone : ∀ xs W, S xs → I xs W → W.heap[w.heap.size]? = some (.deferred (some [])) → Q .normal { a with defers := { target := .collected w.heap.size, args := #[] } :: a.defers } W)
    (hstop : ∀ c pre W, Sp pre → Ix c pre W → W.heap[w.heap.size]? = some (.deferred (some [])) → c.wpIn F n P Q { a with defers := { target := .collected w.heap.size, args := #[] } :: a.defers } W) :
    (Code.rangeFunc g ps assign body).wpIn F n P Q a w := by
  refine wpIn_rangeFunc ?_
  intro fn hfn
  rw [hro]
  have hW1 : ∀ r, ((w.alloc (.deferred (some []))).alloc (.loop r)).heap[w.heap.size + 1]? = some (.loop r) := fun r => by
    have := World.alloc_heap_new (w.alloc (.deferred (some []))) (.loop r)
    rwa [World.size_alloc] at this
  have hD1 : ∀ r, ((w.alloc (.deferred (some []))).alloc (.loop r)).heap[w.heap.size]? = some (.deferred (some [])) := fun r =>
    (Below.heap_alloc _ _ _ (by simp)).trans (World.alloc_heap_new w _)
  have hm : ∀ {d : Nat}, some w.heap.size = some d → w.heap.size ≤ d ∧ d ≠ w.heap.size + 1 := fun e => by cases e; omega
  refine ⟨w.heap.size + 1, [{ target := .collected w.heap.size, args := #[] }], ((w.alloc (.deferred (some []))).alloc (.loop (recOf fn a.tmps ps assign body w.heap.size .ready none))), { target := .fn (.func gf) lb, args := #[.func (.yield (w.heap.size + 1)) #[] #[]] }, ((w.alloc (.deferred (some []))).alloc (.loop (recOf fn a.tmps ps assign body w.heap.size .ready none))), gf,
    #[.func (.yield (w.heap.size + 1)) #[] #[]] ++ lb, ((w.alloc (.deferred (some []))).alloc (.loop (recOf fn a.tmps ps assign body w.heap.size .ready none))), run_enterLoop_outer _ _ _ _ _, ?_, ?_, ?_, fun _ => h1, ?_⟩
  · simp only [resolve, hg]
    simp [go_sem]
  · intro f' hf'
    simp [Target.leads] at hf'
    subst hf'
    exact hFg
  · simp [invoke, go_sem, eg]
  · refine (hit (w.heap.size + 1) (fun pre W => I pre W ∧ W.heap[w.heap.size + 1]? = some (.loop (recOf fn a.tmps ps assign body w.heap.size .ready none)) ∧ markAt (some w.heap.size) W)
      (fun pre W => ∃ c, Ix c pre W ∧ W.heap[w.heap.size + 1]? = some (.loop (recOf fn a.tmps ps assign body w.heap.size .done (some c))) ∧ markAt (some w.heap.size) W) _ (hstart _)
      (fun s A B h hT => ⟨hIT s A B h.1 hT, hTo A B _ _ hT h.2.1 rfl, fun d hd => hTo A B _ _ hT (h.2.2 d hd) rfl⟩)
      (round_yield hfn hps (by omega) (fun d e => (hm e).1) (fun d e => (hm e).2) hKt (fun W o => hKb W _ o (by omega)) (fun s W o o' => hIb s W _ o o' (by omega)) (fun c s W o o' => hIxb c s W _ o o' (by omega))
        (fun pre x W => hround (w.heap.size + 1) pre x W (by omega)))
      ⟨h0 _, hW1 _, fun d hd => by cases hd; exact hD1 _⟩).mono ?_
    rintro e W2 ⟨⟨v, rfl⟩, (⟨xs, hS, hi, hl, hk⟩ | ⟨pre, hSp, c, hi, hl, hk⟩)⟩
    · refine ⟨none, _, run_endLoop hl (by simp [recOf]), hdone xs _ hS (hIb _ _ _ _ _ (by omega) hi hl rfl) ((World.putObj_heap_other (by omega)).trans (hk _ rfl))⟩
    · refine ⟨some c, _, run_endLoop hl (by simp [recOf]), hstop c pre _ hSp (hIxb _ _ _ _ _ _ (by omega) hi hl rfl) ((World.putObj_heap_other (by omega)).trans (hk _ rfl))⟩

end
end Go.Proofs.YtmapmeacjpoaoaaDoor
namespace Go.Proofs.YtmapmeacjpoaoaaDoor
open Go Go.RowKit Go.Shelf
attribute [local go_sem] Oper.semAt_some

/-- The iterator's own variable, a block of one cell. -/
def BoxU (W : World) (b y : Nat) : Prop := W.heap[b]? = some (.cells #[.int .u64 (y : Int)] 53 (0, 0))
def boxNat (W : World) (b : Nat) : Nat := match W.cell? ⟨b, 0, none⟩ with | some (.int _ y) => y.toNat | _ => 0
theorem BoxU.nat {W : World} {b y : Nat} (h : BoxU W b y) : boxNat W b = y := by
  unfold boxNat
  rw [cell_of_one h]
  simp
theorem BoxU.put {W : World} {b y : Nat} (h : BoxU W b y) (z : Nat) : BoxU (W.setCell ⟨b, 0, none⟩ (.int .u64 z)) b z := one_setCell h

def boxTurn (b : Nat) (A B : World) : Prop := ∃ y : Nat, B = A.setCell ⟨b, 0, none⟩ (.int .u64 (y : Int))
def boxKept (b : Nat) (A B : World) : Prop := B.heap[b]? = A.heap[b]? ∧ (DTab A → DTab B)

theorem clear_bits (y : Nat) (hy : y < 18446744073709551616) (h0 : y ≠ 0) : bits BinOp.and IntKind.u64 (y : Int) ((y : Int) - 1) = ((y &&& (y - 1) : Nat) : Int) := by
  have := u64_and_nat y (y - 1) hy (by omega)
  rwa [show ((y - 1 : Nat) : Int) = (y : Int) - 1 by omega] at this

theorem DTab.box {W : World} {b y : Nat} (h : DTab W) (hb : BoxU W b y) (v : Value) : DTab (W.setCell ⟨b, 0, none⟩ v) := by
  intro j hj
  have hj' := h j hj
  have hne : b ≠ 0 := by
    rintro rfl
    have h1 := h 1 (by decide)
    unfold BoxU at hb
    simp [World.cell?, hb] at h1
  rw [show (W.setCell ⟨b, 0, none⟩ v).cell? ⟨0, j, none⟩ = W.cell? ⟨0, j, none⟩ from World.cell?_of_block (Below.heap_setCell _ _ _ _ (by simpa using Ne.symm hne))]
  exact hj'

set_option maxHeartbeats 1000000 in
theorem each1_in (n x Bx : Nat) (hx : x < 18446744073709551616) :
    IterIn Fence.wide n Tryd.prog 68 #[.pointer (some ⟨Bx, 0, none⟩)] (fun k : Nat => #[.int .i64 (k : Int)]) (boxTurn Bx) (boxKept Bx)
      (fun pre k => ∃ rest, bitsOf x = pre ++ k :: rest) (fun xs => xs = bitsOf x) (fun pre => pre <+: bitsOf x) (fun W => BoxU W Bx x ∧ DTab W) := by
  intro l J Jx W ⟨hbox, htab⟩ hJ hY h0
  refine callsIn_of_wp Tryd.func68 rfl trivial ?_ rfl
  simp only [Tryd.ntmps68, List.size_toArray, List.length_cons, List.length_nil, Nat.reduceAdd, Nat.reduceSub, Array.replicate_succ, Array.replicate_zero, List.push_toArray, List.append_toArray, List.nil_append, List.cons_append]
  gi_wp2_with fail
  gi_loopw [3] (fun _ wr => ∃ (pre : List Nat) (y : Nat), bitsOf x = pre ++ bitsOf y ∧ y < 18446744073709551616 ∧ BoxU wr Bx y ∧ DTab wr ∧ J pre wr)
    (fun _ wr => (bitsOf (boxNat wr Bx)).length)
  case atStart => exact ⟨[], x, rfl, hx, hbox, htab, h0⟩
  case round =>
    obtain ⟨pre, y, he, hy, hb, ht, hj⟩ := hrel
    have hc := cell_of_one hb
    have hf := free_of_one hb
    by_cases hy0 : y = 0
    · have hz : ((y : Int) != 0) = false := by rw [bne_eq_false_iff_eq]; omega
      have hfin : (∃ xs, xs = bitsOf x ∧ J xs wr) := ⟨pre, by rw [he, hy0, bitsOf_zero, List.append_nil], hj⟩
      have HF := Lib.hid hfin
      clear hy0 he hfin
      gi_wp2_with fail
      go_end0
      exact ⟨⟨_, rfl⟩, .inl HF.out⟩
    · have hz : ((y : Int) != 0) = true := by rw [bne_iff_ne]; omega
      have hstep := bitsOf_step hy0 (by simpa using hy)
      obtain ⟨-, -, hk⟩ := low_form hy0 (by simpa using hy)
      have hclr := clear_bits y hy hy0
      have hy1 : IntKind.u64.wrap ((y : Int) - 1) = (y : Int) - 1 := by rw [IntKind.wrap_u64]; omega
      have hzlt : y &&& (y - 1) < 18446744073709551616 := clear_lt (by simpa using hy)
      have HT := Lib.hid (tz_any y hy0 hy)
      generalize hkk : Lib.ctz 64 y = k at *
      generalize hzz : y &&& (y - 1) = z at *
      have hb1 := hb.put z
      have hj1 := hJ pre wr (wr.setCell ⟨Bx, 0, none⟩ (.int .u64 (z : Int))) hj ⟨z, rfl⟩
      have ht1 := ht.box hb (.int .u64 (z : Int))
      have hmeas : Hid ((bitsOf z).length < (bitsOf (boxNat wr Bx)).length) := by
        unfold Hid; rw [hb.nat, hstep]; simp
      have he1 : Hid (bitsOf x = (pre ++ [k]) ++ bitsOf z) := by unfold Hid; rw [he, hstep]; simp
      have hpre : Hid (pre ++ [k] <+: bitsOf x) := ⟨bitsOf z, he1.out.symm⟩
      obtain ⟨fn, tmps, assign, body, hyy, hR⟩ := hY pre k _ hj1 ⟨bitsOf z, by rw [he, hstep]⟩
      clear hkk hzz hstep he hY hJ h0 hj hbox htab
      gi_wp2_with fail
      refine ⟨trivial, fun h => (by cases h), ?_⟩
      refine (callsIn_wide.2 (HT.out _ ht)).mono ?_
      rintro e w' ⟨rfl, rfl⟩
      gi_wp2_with fail
      refine ⟨fun h => (by cases h), ?_⟩
      refine hR.mono ?_
      rintro e W' (⟨rfl, hj2, hk2⟩ | ⟨rfl, hjx⟩)
      · have hb2 : BoxU W' Bx z := hk2.1.trans hb1
        have ht2 := hk2.2 ht1
        have hm2 : Hid ((bitsOf (boxNat W' Bx)).length < (bitsOf (boxNat wr Bx)).length) := by unfold Hid; rw [hb2.nat]; exact hmeas.out
        clear hk2 ht1 hb1 hj1 hyy hR hclr hy1 hc hf ht hb
        gi_wp2_with fail
        exact ⟨⟨pre ++ [k], z, he1.out, hzlt, hb2, ht2, hj2⟩, hm2.out⟩
      · have hfin : Hid (∃ pre, pre <+: bitsOf x ∧ Jx pre W') := ⟨_, hpre.out, hjx⟩
        clear hjx ht1 hb1 hj1 hyy hR hclr hy1 hc hf ht hb
        gi_wp2_with fail
        refine bodyPost_ret (results_none rfl _ _ _) rfl ?_
        exact ⟨⟨_, rfl⟩, .inr hfin.out⟩

set_option maxHeartbeats 400000 in
theorem each_any (x : Nat) (w : World) :
    Calls Tryd.prog 43 #[.int .u64 x] w fun e w' => e = .returned (.func (.func 68) #[] #[.pointer (some ⟨w.heap.size, 0, none⟩)]) ∧ w' = w.alloc (.cells #[.int .u64 x] 53) := by
  go_enter Tryd.func43, Tryd.ntmps43
  go_wp2_with fail
  go_ret
  exact ⟨rfl, rfl⟩
end Go.Proofs.YtmapmeacjpoaoaaDoor
namespace Go.Proofs.YtmapmeacjpoaoaaDoor
open Go Go.RowKit Go.Shelf
attribute [local go_sem] Oper.semAt_some

def intCells (l : List Nat) : List Value := l.map fun (k : Nat) => .int .i64 (k : Int)
theorem infoI64 : (Tryd.prog.info? 3).map (fun i => (i.zero, i.size, i.bytes)) = some (some (.int .i64 0), 1, 8) := by kernel_rfl

theorem below_put {B l : Nat} {a W : World} (h : Below B a W) (hl : B ≤ l) (o : Obj) : Below B a (W.putObj l o) :=
  ⟨h.os, h.tape, h.output, by rw [show (W.putObj l o).heap.size = W.heap.size by simp [World.putObj]]; exact h.size, fun k hk => (World.putObj_heap_other (by omega)).trans (h.block k hk)⟩
theorem size_put (W : World) (l : Nat) (o : Obj) : (W.putObj l o).heap.size = W.heap.size := by simp [World.putObj]

/-- 'out = append(out, x)', out in a box ahead of the rows: what it leaves. -/
theorem box_grow {W w1 : World} {n₀ B : Nat} {t e : TypeId} {size : Nat} {v v' : Value} {k m : Nat} {xs ys : List Value} {tmp : Obj}
    (hv : W.heap[B]? = some (.cells #[v] t (0, 0))) (hte : t ≠ e) (hrow : W.ownsRow n₀ e size v k xs) (hn₀ : n₀ ≤ W.heap.size) (hB : B < n₀)
    (hown' : w1.ownsRow n₀ e size v' m ys) (hgrow : (W.alloc tmp).grownBy w1 v.ownBlock) :
    w1.heap[B]? = some (.cells #[v] t (0, 0)) ∧ (w1.setCell ⟨B, 0, none⟩ v').heap[B]? = some (.cells #[v'] t (0, 0)) ∧ (w1.setCell ⟨B, 0, none⟩ v').ownsRow n₀ e size v' m ys ∧ KeepsOthers W (w1.setCell ⟨B, 0, none⟩ v') ∧
      Below B W (w1.setCell ⟨B, 0, none⟩ v') ∧ ∀ j, j < W.heap.size → j < n₀ → j ≠ B → (w1.setCell ⟨B, 0, none⟩ v').heap[j]? = W.heap[j]? := by
  have hbx : Boxed W B t v := hv
  obtain ⟨h1, h2, h3, h4, h5⟩ := hbx.appended hte (ownsRow.base hrow (Nat.le_of_lt hB)) (by omega) (Nat.le_refl _) (ownsRow.base hown' (Nat.le_of_lt hB)) hgrow
  refine ⟨h1, h2, ownsRow_setCell_below hown' hB _, h4, h5, fun j hj hjn hjB => ?_⟩
  have hne : some j ≠ v.ownBlock := fun h => by have := ownBlock_ge hrow j h.symm; omega
  rw [show (w1.setCell ⟨B, 0, none⟩ v').heap[j]? = w1.heap[j]? from Below.heap_setCell _ _ _ _ (by simpa using hjB), hgrow.block j (by simp; omega) hne, Below.heap_alloc _ _ _ hj]
theorem boxKept_trans {b : Nat} {A B C : World} (h : boxKept b A B) (k : boxKept b B C) : boxKept b A C := ⟨k.1.trans h.1, fun t => k.2 (h.2 t)⟩

set_option maxHeartbeats 1000000 in
theorem list_in (n x : Nat) (hx : x < 18446744073709551616) (w : World) (ht : DTab w) :
    CallsIn Fence.wide (n + 3) Tryd.prog 18 #[.int .u64 x] w fun e w' => ∃ v, e = .returned v ∧ w'.ownsRow w.heap.size 3 1 v (bitsOf x).length (intCells (bitsOf x)) ∧ Below w.heap.size w w' := by
  refine callsIn_of_wp_marks Tryd.func18 rfl trivial ?_ rfl
  simp only [Tryd.ntmps18, List.size_toArray, List.length_cons, List.length_nil, Nat.reduceAdd, Nat.reduceSub, Array.replicate_succ, Array.replicate_zero, List.push_toArray, List.append_toArray, List.nil_append, List.cons_append]
  gi_wp2_with fail
  refine ⟨trivial, ?_⟩
  refine (callsIn_wide.2 (each_any x _)).mono ?_
  rintro e w' ⟨rfl, rfl⟩
  gi_wp2_with fail
  obtain ⟨W0, hW0⟩ : ∃ W0, (w.alloc (.cells #[.slice none 0 0] 24)).alloc (.cells #[.int .u64 x] 53) = W0 := ⟨_, rfl⟩
  have hsz : W0.heap.size = w.heap.size + 2 := by rw [← hW0]; simp
  have hb0 : W0.heap[w.heap.size]? = some (.cells #[.slice none 0 0] 24 (0, 0)) := by
    rw [← hW0]; exact (Below.heap_alloc _ _ _ (by simp)).trans (World.alloc_heap_new w _)
  have hbx : BoxU W0 (w.heap.size + 1) x := by
    rw [← hW0]
    have := World.alloc_heap_new (w.alloc (.cells #[.slice none 0 0] 24)) (.cells #[.int .u64 x] 53)
    rwa [World.size_alloc] at this
  have hbel : Below w.heap.size w W0 := by rw [← hW0]; exact ((Below.refl _ w).alloc (Nat.le_refl _) _).alloc (by simp) _
  rw [hW0]
  clear hW0
  refine range_outer rfl (by omega) (gf := 68) (lb := #[.pointer (some ⟨w.heap.size + 1, 0, none⟩)]) rfl trivial (enters_of Tryd.func68 (by kernel_rfl) rfl)
    (each1_in (n + 3 - 1) x (w.heap.size + 1) hx) (fun _ => rfl)
    ?hTo (fun h k => ⟨k.1.trans h.1, fun t => k.2 (h.2 t)⟩) ?hKb
    (fun pre W => ∃ v, W.heap[w.heap.size]? = some (.cells #[v] 24 (0, 0)) ∧ W.ownsRow (w.heap.size + 2) 3 1 v pre.length (intCells pre) ∧ Below w.heap.size w W) (fun _ _ _ => False)
    ?hIT ?hIb (fun _ _ _ _ _ _ _ h => h.elim) ?h0 ?hstart ?hround ?hdone (fun _ _ _ _ h => h.elim)
  case hTo =>
    rintro A B k o ⟨y, rfl⟩ hk ho
    exact (KeepsOthers.setCell A ⟨w.heap.size + 1, 0, none⟩ _).same k o hk ho
  case hKb =>
    intro W l o hl
    refine ⟨World.putObj_heap_other (by omega), fun t => t.same (World.putObj_heap_other (by have := ht.lt; omega))⟩
  case hIT =>
    rintro s A B ⟨v, h1, h2, h3⟩ ⟨y, rfl⟩
    exact ⟨v, (Below.heap_setCell _ _ _ _ (by simp)).trans h1, ownsRow_setCell_below h2 (by simp) _, h3.setCell (by simp) _⟩
  case hIb =>
    rintro s W l o o' hl ⟨v, h1, h2, h3⟩ hlo ho
    have hne : w.heap.size ≠ l := by rintro rfl; rw [h1] at hlo; cases hlo; cases ho
    exact ⟨v, (World.putObj_heap_other hne).trans h1, ownsRow_putObj h2 o' hlo ho, below_put h3 (by omega) _⟩
  case h0 =>
    intro r
    refine ⟨_, (Below.heap_alloc _ _ _ (by simp; omega)).trans ((Below.heap_alloc _ _ _ (by omega)).trans hb0), ⟨rfl, .inl ⟨rfl, rfl⟩⟩, ((hbel.alloc hbel.size _).alloc (by have := hbel.size; simp; omega) _)⟩
  case hstart =>
    intro r
    refine ⟨(Below.heap_alloc _ _ _ (by simp; omega)).trans ((Below.heap_alloc _ _ _ (by omega)).trans hbx), ?_⟩
    refine ht.same ?_
    have := ht.lt
    exact (((hbel.alloc hbel.size _).alloc (by have := hbel.size; simp; omega) _).block 0 this)
  case hround =>
    rintro l pre k W hl ⟨r, hlr⟩ ⟨v, hv, hrow, hbw⟩ ⟨rest, hrest⟩
    have hlen : pre.length + 1 ≤ 64 := by have := bitsOf_length x; rw [hrest] at this; simp at this; omega
    gi_wp2_with fail
    refine ⟨KeepsFrom.refl _ _, ?_⟩
    intro r'
    have hne : w.heap.size ≠ l := by rintro rfl; rw [hv] at hlr; cases hlr
    obtain ⟨W2, hW2⟩ : ∃ W2, W.putObj l (.loop r') = W2 := ⟨_, rfl⟩
    have hv2 : W2.heap[w.heap.size]? = some (.cells #[v] 24 (0, 0)) := by rw [← hW2]; exact (World.putObj_heap_other hne).trans hv
    have hrow2 : W2.ownsRow (w.heap.size + 2) 3 1 v pre.length (intCells pre) := by rw [← hW2]; exact ownsRow_putObj hrow _ hlr rfl
    have hbw2 : Below w.heap.size w W2 := by rw [← hW2]; exact below_put hbw (by omega) _
    have hk2 : boxKept (w.heap.size + 1) W W2 := by
      rw [← hW2]
      exact ⟨World.putObj_heap_other (by omega), fun t => t.same (World.putObj_heap_other (by have := ht.lt; omega))⟩
    have hsz2 : w.heap.size + 2 ≤ W2.heap.size := by rw [← hW2, size_put]; have := (Array.getElem?_eq_some_iff.1 hlr).1; omega
    rw [hW2]
    clear hW2
    obtain ⟨i0, hi, hz0, hz1, hz2⟩ := info_parts infoI64
    have hc := cell_of_one hv2
    have hf := free_of_one hv2
    clear hbw hrow hv hlr hb0 hbx hbel hrest
    gi_wp2_with (gi_at_builtin; refine wpListIn_append_own _ rfl _ _ 24 rfl (w.heap.size + 2) 3 i0 (.int .i64 0) 1 8 Tryd.underlying24 hi hz0 hz1 hz2 rfl (by decide) _ _ _ rfl (hrow2.alloc _) ⟨W2.heap.size, 0, none⟩ 1 1 [.int .i64 (k : Int)] rfl rfl (cell_one_new _ _ _) (by simp [Value.oneCell']) (by unfold maxLen; omega) (by omega) (by simp; omega) ?_; intro v' w1 hown' hgrow hnil'; obtain ⟨g, cap, rfl⟩ := ownsRow_succ hown'; obtain ⟨hb1, ha1, ha2, ha3, ha4, ha5⟩ := box_grow hv2 (by decide) hrow2 hsz2 (by omega) hown' hgrow; have hc1 := cell_of_one hb1; have hf1 := free_of_one hb1)
    refine ⟨ha3.from _, boxKept_trans hk2 ⟨ha5 _ (by omega) (by omega) (by omega), fun t => t.same (ha5 _ t.lt (by have := ht.lt; omega) (by have := ht.lt; omega))⟩, _, ha1, ?_, hbw2.trans (ha4.mono (by omega))⟩
    rw [List.length_append]
    simpa [intCells] using ha2
  case hdone =>
    rintro xs W rfl ⟨v, hv, hrow, hbw⟩ hD
    have hc := cell_of_one hv
    clear hb0 hbx hbel
    gi_wp2_with fail
    refine ⟨by simp, .inl ⟨_, _, rfl, run_takeDeferred hD, ?_⟩⟩
    exact ⟨_, results_tmp rfl _ _ _, v, rfl, ownsRow.base (ownsRow_putObj hrow _ hD rfl) (by omega), below_put hbw (by omega) _⟩

theorem list_any (x : Nat) (hx : x < 18446744073709551616) (w : World) (ht : DTab w) :
    Calls Tryd.prog 18 #[.int .u64 x] w fun e w' => ∃ v, e = .returned v ∧ w'.ownsRow w.heap.size 3 1 v (bitsOf x).length (intCells (bitsOf x)) ∧ Below w.heap.size w w' :=
  callsIn_wide.1 (list_in 0 x hx w ht)
end Go.Proofs.YtmapmeacjpoaoaaDoor
namespace Go.Proofs.YtmapmeacjpoaoaaDoor
open Go Go.RowKit

theorem take_getD {us : List Nat} {k : Nat} (h : k < us.length) : us.take (k + 1) = us.take k ++ [us.getD k 0] := by
  rw [List.take_succ_eq_append_getElem h, List.getD_eq_getElem?_getD, List.getElem?_eq_getElem h]
  rfl

set_option maxHeartbeats 400000 in
theorem same_any (v1 v2 : Value) (l m : List Nat) (w : World) (h1 : Us w v1 l) (h2 : Us w v2 m) :
    Calls Tryd.prog 14 #[v1, v2] w fun e w' => e = .returned (.bool (l == m)) ∧ Below w.heap.size w w' := by
  have hbig := h1.len
  obtain ⟨ao1, cap1, rfl, -⟩ := h1.shape
  obtain ⟨ao2, cap2, rfl, -⟩ := h2.shape
  by_cases hlen : l.length = m.length
  · have hne : ((l.length : Int) != (m.length : Int)) = false := by rw [bne_eq_false_iff_eq]; omega
    have HL := Lib.hid hlen
    clear hlen
    go_enter Tryd.func14, Tryd.ntmps14
    go_wp2_with fail
    go_loopw [5] (fun i wr => ∃ k nq : Nat, k ≤ l.length ∧ i = .int .i64 k ∧ wr = w.drewN nq ∧ Hid (l.take k = m.take k)) (fun i _ => l.length - (intOf i).toNat)
    case atStart => exact ⟨0, 0, by omega, rfl, rfl, by simp [Hid]⟩
    case round =>
      obtain ⟨k, nq, hk, rfl, rfl, hr⟩ := hrel
      by_cases hlt : k < l.length
      · have hltm : k < m.length := by have := HL.out; omega
        obtain ⟨b1, o1, rfl, hc1⟩ := h1.at hlt
        obtain ⟨b2, o2, rfl, hc2⟩ := h2.at hltm
        have c1 := hc1 k hlt
        have c2 := hc2 k hltm
        have hi1 : (k : Int) < (l.length : Int) := by omega
        have hi2 : (k : Int) < (m.length : Int) := by omega
        clear hc1 hc2 h1 h2
        have hk1 : Hid (l.take (k + 1) = l.take k ++ [l.getD k 0]) := take_getD hlt
        have hk2 : Hid (m.take (k + 1) = m.take k ++ [m.getD k 0]) := take_getD hltm
        have hlm : Hid (l.getD k 0 ≠ m.getD k 0 → (l == m) = false) := fun hx => by
          rw [beq_eq_false_iff_ne]
          intro e
          subst e
          exact hx rfl
        obtain ⟨x, hx⟩ : ∃ x, l.getD k 0 = x := ⟨_, rfl⟩
        obtain ⟨y, hy⟩ : ∃ y, m.getD k 0 = y := ⟨_, rfl⟩
        rw [hx] at c1 hk1 hlm
        rw [hy] at c2 hk2 hlm
        clear hx hy
        by_cases hxy : x = y
        · subst hxy
          have hd : ((x : Int) != (x : Int)) = false := by simp
          go_wp2_with fail
          go_quiet (fail)
          go_wp2_with fail
          go_roundw
          case rel => exact ⟨k + 1, _, by omega, by go_num, rfl, by have a1 := hr.out; have a2 := hk1.out; have a3 := hk2.out; unfold Hid; rw [a2, a3, a1]⟩
          case measure => simp [intOf]; omega
        · have hd : ((x : Int) != (y : Int)) = true := by
            rw [bne_iff_ne]; intro e; exact hxy (by omega)
          have hfin := hlm.out hxy
          have HF := Lib.hid hfin
          clear hfin hxy
          go_wp2_with fail
          go_quiet (fail)
          go_wp2_with fail
          go_ret
          exact ⟨by rw [HF.out]; rfl, below_next (below_drewN _ _) (below_drewN _ _)⟩
      · have hfin : (l == m) = true := by
          rw [beq_iff_eq]
          have := hr.out
          rw [List.take_of_length_le (by omega), List.take_of_length_le (by have := HL.out; omega)] at this
          exact this
        have HF := Lib.hid hfin
        clear hfin
        go_wp2_with fail
        go_ret
        exact ⟨by rw [HF.out]; rfl, below_drewN _ _⟩
  · have hne : ((l.length : Int) != (m.length : Int)) = true := by rw [bne_iff_ne]; omega
    have hfin : (l == m) = false := by
      rw [beq_eq_false_iff_ne]
      rintro rfl
      exact hlen rfl
    have HF := Lib.hid hfin
    clear hfin hlen
    go_enter Tryd.func14, Tryd.ntmps14
    go_wp2_with fail
    go_ret
    exact ⟨by rw [HF.out]; rfl, Below.refl _ _⟩

end Go.Proofs.YtmapmeacjpoaoaaDoor
namespace Go.Proofs.YtmapmeacjpoaoaaDoor
open Go Go.RowKit

namespace L
/-- Whether c is above both, and flows to those of the first j that are. -/
def fineAt (us : List Nat) (a b : Int) (c j : Nat) : Bool := above us a b c && (List.range j).all fun d => !above us a b d || leq us c d
theorem fineAt_zero (us : List Nat) (a b : Int) (c : Nat) : fineAt us a b c 0 = above us a b c := by simp [fineAt]
theorem fineAt_succ (us : List Nat) (a b : Int) (c j : Nat) : fineAt us a b c (j + 1) = (fineAt us a b c j && (!above us a b j || leq us c j)) := by
  simp [fineAt, List.range_succ, Bool.and_assoc]
theorem fineAt_false {us : List Nat} {a b : Int} {c j n : Nat} (h : fineAt us a b c j = false) (hj : j ≤ n) : fineAt us a b c n = false := by
  obtain ⟨m, rfl⟩ : ∃ m, n = j + m := ⟨n - j, by omega⟩
  clear hj
  induction m with
  | zero => exact h
  | succ m ih => rw [← Nat.add_assoc, fineAt_succ, ih]; rfl
theorem first_hit {n k : Nat} {p : Nat → Bool} (hk : k < n) (h1 : ∀ c, c < k → p c = false) (h2 : p k = true) : first n p = k := by
  unfold first
  have : (List.range n).find? p = some k := by
    obtain ⟨m, rfl⟩ : ∃ m, n = k + 1 + m := ⟨n - k - 1, by omega⟩
    rw [List.range_add, List.find?_append, List.range_succ, List.find?_append, List.find?_eq_none.2 (fun c hc => by rw [h1 c (List.mem_range.1 hc)]; decide)]
    simp [h2]
  rw [this]
  rfl
end L

set_option maxHeartbeats 1000000 in
theorem refJoin_any (v : Value) (us : List Nat) (a b : Int) (w : World) (hv : Us w v us) (hu : U64s us) :
    Calls Tryd.prog 62 #[v, .int .i64 a, .int .i64 b] w fun e w' => e = .returned (.int .i64 (L.join us a b)) ∧ w = w' := by
  obtain ⟨ao, cap, rfl, -⟩ := hv.shape
  have hbig := hv.len
  have HQ := Lib.hid (fun (c d : Int) => refLeq_any _ us c d w hv hu)
  clear hv hu
  go_enter Tryd.func62, Tryd.ntmps62
  go_wp2_with fail
  go_loop [7] (fun i => ∃ k : Nat, k ≤ us.length ∧ i = .int .i64 k ∧ Hid (∀ c, c < k → L.fineAt us a b c us.length = false)) (fun i => us.length - (intOf i).toNat)
  case atStart => exact ⟨0, by omega, rfl, fun c hc => absurd hc (Nat.not_lt_zero _)⟩
  case round =>
    obtain ⟨k, hk, rfl, hno⟩ := hrel
    by_cases hlt : k < us.length
    · go_wp2_with fail
      refine (HQ.out a k).mono ?_
      rintro e w' ⟨rfl, rfl⟩
      have h0 : Hid (L.fineAt us a b k 0 = (L.leq us a k && L.leq us b k)) := L.fineAt_zero us a b k
      cases hA : L.leq us a k with
      | false =>
        rw [hA] at h0
        have hno1 : Hid (∀ c, c < k + 1 → L.fineAt us a b c us.length = false) := fun c hc => by
          by_cases he : c = k
          · subst he; exact L.fineAt_false (j := 0) (by rw [h0.out]; rfl) (Nat.zero_le _)
          · exact hno.out c (by omega)
        clear h0 hno hA
        go_wp2_with fail
        go_loop [8, 9] (fun t i => t = .bool false ∧ i = .int .i64 0) (fun _ i => (intOf i).toNat)
        case atStart => exact ⟨rfl, rfl⟩
        case round =>
          obtain ⟨rfl, rfl⟩ := hrel
          go_wp2_with fail
          go_round
          case rel => exact ⟨k + 1, by omega, by go_num, hno1⟩
          case measure => simp [intOf]; omega
      | true =>
        rw [hA, Bool.true_and] at h0
        clear hA
        go_wp2_with fail
        refine (HQ.out b k).mono ?_
        rintro e w' ⟨rfl, rfl⟩
        obtain ⟨B, hB⟩ : ∃ B, L.leq us b k = B := ⟨_, rfl⟩
        rw [hB] at h0 ⊢
        clear hB
        go_wp2_with fail
        go_loop [8, 9] (fun t i => ∃ j : Nat, j ≤ us.length ∧ i = .int .i64 j ∧ t = .bool (L.fineAt us a b k j)) (fun _ i => us.length - (intOf i).toNat)
        case atStart => exact ⟨0, by omega, rfl, by rw [h0.out]⟩
        case round =>
          obtain ⟨j, hj, rfl, rfl⟩ := hrel
          by_cases hjl : j < us.length
          · have hs := Lib.hid (L.fineAt_succ us a b k j)
            cases hF : L.fineAt us a b k j with
            | false =>
              have hno1 : Hid (∀ c, c < k + 1 → L.fineAt us a b c us.length = false) := fun c hc => by
                by_cases he : c = k
                · subst he; exact L.fineAt_false hF hj
                · exact hno.out c (by omega)
              clear h0 hno hF hs
              go_wp2_with fail
              go_round
              case rel => exact ⟨k + 1, by omega, by go_num, hno1⟩
              case measure => simp [intOf]; omega
            | true =>
              rw [hF, Bool.true_and] at hs
              clear hF h0
              go_wp2_with fail
              refine (HQ.out a j).mono ?_
              rintro e w' ⟨rfl, rfl⟩
              cases hA : L.leq us a j with
              | false =>
                have hs1 : Hid (L.fineAt us a b k (j + 1) = true) := by unfold Hid; rw [hs.out]; unfold L.above; rw [hA]; rfl
                clear hs hA
                go_wp2_with fail
                go_round
                case rel => exact ⟨j + 1, by omega, by go_num, by rw [hs1.out]⟩
                case measure => simp [intOf]; omega
              | true =>
                go_wp2_with fail
                refine (HQ.out b j).mono ?_
                rintro e w' ⟨rfl, rfl⟩
                cases hB : L.leq us b j with
                | false =>
                  have hs1 : Hid (L.fineAt us a b k (j + 1) = true) := by unfold Hid; rw [hs.out]; unfold L.above; rw [hA, hB]; rfl
                  clear hs hA hB
                  go_wp2_with fail
                  go_round
                  case rel => exact ⟨j + 1, by omega, by go_num, by rw [hs1.out]⟩
                  case measure => simp [intOf]; omega
                | true =>
                  have hs1 : Hid (L.fineAt us a b k (j + 1) = L.leq us k j) := by unfold Hid; rw [hs.out]; unfold L.above; rw [hA, hB]; rfl
                  clear hs hA hB
                  go_wp2_with fail
                  refine (HQ.out k j).mono ?_
                  rintro e w' ⟨rfl, rfl⟩
                  obtain ⟨C, hC⟩ : ∃ C, L.leq us k j = C := ⟨_, rfl⟩
                  rw [hC] at hs1 ⊢
                  clear hC
                  go_wp2_with fail
                  go_round
                  case rel => exact ⟨j + 1, by omega, by go_num, by rw [hs1.out]⟩
                  case measure => simp [intOf]; omega
          · obtain rfl : j = us.length := by omega
            cases hF : L.fineAt us a b k us.length with
            | false =>
              have hno1 : Hid (∀ c, c < k + 1 → L.fineAt us a b c us.length = false) := fun c hc => by
                by_cases he : c = k
                · subst he; exact hF
                · exact hno.out c (by omega)
              clear h0 hno hF hjl hj
              go_wp2_with fail
              go_round
              case rel => exact ⟨k + 1, by omega, by go_num, hno1⟩
              case measure => simp [intOf]; omega
            | true =>
              have hfin : Hid (L.join us a b = k) := L.first_hit hlt hno.out hF
              clear h0 hno hF hjl hj
              go_wp2_with fail
              go_ret
              exact ⟨ret_int hfin.out.symm, rfl⟩
    · obtain rfl : k = us.length := by omega
      have hfin : Hid (L.join us a b = -1) := L.first_none hno.out
      clear hno hlt hk
      go_wp2_with fail
      go_ret
      exact ⟨ret_int hfin.out.symm, rfl⟩
theorem infoU64 : (Tryd.prog.info? 53).map (fun i => (i.zero, i.size, i.bytes)) = some (some (.int .u64 0), 1, 8) := by kernel_rfl

namespace L
def downs (us : List Nat) (k : Nat) : List Nat := (List.range k).map fun (i : Nat) => down us i
theorem downs_succ (us : List Nat) (k : Nat) : downs us (k + 1) = downs us k ++ [down us k] := by simp [downs, List.range_succ]
theorem turned_u64 (us : List Nat) : U64s (turned us) := by
  intro x hx
  obtain ⟨i, -, rfl⟩ := List.mem_map.1 hx
  exact down_lt us i
end L

set_option maxHeartbeats 1000000 in
theorem turned_any (v : Value) (us : List Nat) (w : World) (hv : Us w v us) (hu : U64s us) (h64 : us.length ≤ 64) :
    Calls Tryd.prog 76 #[v] w fun e w' => ∃ v', e = .returned v' ∧ w'.ownsRow w.heap.size 53 1 v' us.length (u64Cells (L.turned us)) ∧ Below w.heap.size w w' := by
  obtain ⟨ao, cap, rfl, -⟩ := hv.shape
  obtain ⟨i0, hi, hz0, hz1, hz2⟩ := info_parts infoU64
  have HV := Lib.hid hv
  have HU := Lib.hid hu
  clear hv hu
  go_enter Tryd.func76, Tryd.ntmps76
  go_wp2_with fail
  go_loopw [3, 4] (fun o i wr => ∃ k : Nat, k ≤ us.length ∧ i = .int .i64 k ∧ Hid (wr.ownsRow w.heap.size 53 1 o k (u64Cells (L.downs us k))) ∧ Below w.heap.size w wr) (fun _ i _ => us.length - (intOf i).toNat)
  case atStart => exact ⟨0, by omega, rfl, World.ownsRow_nil _ _ _ _, Below.refl _ _⟩
  case round =>
    obtain ⟨k, hk, rfl, hr, hbr⟩ := hrel
    by_cases hlt : k < us.length
    · have hs := Lib.hid (L.downs_succ us k)
      go_wp2_with fail
      refine (refDown_any _ us k wr (HV.out.below hbr) HU.out).mono ?_
      rintro e w' ⟨rfl, rfl⟩
      have hdl := L.down_lt us k
      obtain ⟨d, hd⟩ : ∃ d, L.down us k = d := ⟨_, rfl⟩
      rw [hd] at hs hdl ⊢
      clear hd
      go_wp2_with (at_builtin; go_must (refine wpList_append_own (w := wr.alloc (.cells #[.int .u64 (d : Int)] 53)) rfl _ _ 23 rfl w.heap.size 53 i0 (.int .u64 0) 1 8 Tryd.underlying23 hi hz0 hz1 hz2 rfl (by decide) _ _ _ rfl (hr.out.alloc _) ⟨wr.heap.size, 0, none⟩ 1 1 [.int .u64 (d : Int)] rfl rfl (cell_one_new _ _ _) (by simp [Value.oneCell']) (by unfold maxLen; omega) (by omega) (by have := hbr.size; simp; omega) ?_))
      intro v2 w2 hown2 hgrow _
      have hrel : Hid (w2.ownsRow w.heap.size 53 1 v2 (k + 1) (u64Cells (L.downs us (k + 1)))) := by
        unfold Hid; rw [hs.out]; simpa [u64Cells] using hown2
      have hb2 : Below w.heap.size w w2 := (hbr.alloc hbr.size _).grown hgrow (by have := hbr.size; simp; omega) (ownBlock_ge hr.out)
      clear hown2 hgrow hr hs hbr
      go_wp2_with fail
      go_roundw
      case rel => exact ⟨k + 1, by omega, by go_num, hrel, hb2⟩
      case measure => simp [intOf]; omega
    · obtain rfl : k = us.length := by omega
      clear hlt hk
      go_wp2_with fail
      go_ret
      exact ⟨_, rfl, hr.out, hbr⟩

set_option maxHeartbeats 400000 in
theorem refMeet_any (v : Value) (us : List Nat) (a b : Int) (w : World) (hv : Us w v us) (hu : U64s us) :
    Calls Tryd.prog 63 #[v, .int .i64 a, .int .i64 b] w fun e w' => e = .returned (.int .i64 (L.meet us a b)) ∧ Below w.heap.size w w' := by
  obtain ⟨ao, cap, rfl, -⟩ := hv.shape
  by_cases h64 : us.length ≤ 64
  · have hd : decide ((64 : Int) < (us.length : Int)) = false := by simp; omega
    have HT := Lib.hid (turned_any _ us w hv hu h64)
    clear hv hu
    go_enter Tryd.func63, Tryd.ntmps63
    go_wp2_with fail
    refine HT.out.mono ?_
    rintro e w' ⟨v', rfl, hown, hb⟩
    have hus : Us w' v' (L.turned us) := Us.of_owns hown
    have HJ := Lib.hid (refJoin_any v' (L.turned us) a b w' hus (L.turned_u64 us))
    rw [L.join_turned] at HJ
    clear hown hus HT
    go_wp2_with fail
    refine HJ.out.mono ?_
    rintro e w2 ⟨rfl, rfl⟩
    go_wp2_with fail
    go_ret
    exact ⟨rfl, hb⟩
  · have hd : decide ((64 : Int) < (us.length : Int)) = true := by simp; omega
    have hfin : Hid (L.meet us a b = -1) := L.first_none fun c _ => by unfold L.under; rw [L.leq_long (by omega)]; rfl
    clear h64 hv hu
    go_enter Tryd.func63, Tryd.ntmps63
    go_wp2_with fail
    go_ret
    exact ⟨ret_int hfin.out.symm, Below.refl _ _⟩
end Go.Proofs.YtmapmeacjpoaoaaDoor
namespace Go.Proofs.YtmapmeacjpoaoaaDoor
open Go Go.RowKit

namespace L
def step (us : List Nat) (gs : List Gr) (o : Opr) (s : Nat) : Nat := if flows gs o s then s ||| down us o.level else s
/-- Behind all of them, from the end to the beginning. -/
def cur (us : List Nat) (gs : List Gr) (d : Nat) (l : List Opr) : Nat := l.foldr (step us gs) d
def sets (us : List Nat) (gs : List Gr) (d : Nat) (l : List Opr) : List Nat := (List.range l.length).map fun i => cur us gs d (l.drop i)
theorem step_lt {us : List Nat} {gs : List Gr} {o : Opr} {s : Nat} (h : s < 18446744073709551616) : step us gs o s < 18446744073709551616 := by
  unfold step
  split
  · exact Nat.or_lt_two_pow (n := 64) h (down_lt us _)
  · exact h
theorem cur_lt {us : List Nat} {gs : List Gr} {d : Nat} (h : d < 18446744073709551616) : ∀ l, cur us gs d l < 18446744073709551616
  | [] => h
  | _ :: l => step_lt (cur_lt h l)
theorem cur_step {us : List Nat} {gs : List Gr} {d : Nat} {l : List Opr} {j : Nat} (h : j < l.length) : cur us gs d (l.drop j) = step us gs l[j] (cur us gs d (l.drop (j + 1))) := by
  rw [List.drop_eq_getElem_cons h]
  rfl
theorem sets_length (us : List Nat) (gs : List Gr) (d : Nat) (l : List Opr) : (sets us gs d l).length = l.length := by simp [sets]
theorem sets_at {us : List Nat} {gs : List Gr} {d : Nat} {l : List Opr} {j : Nat} (h : j < (sets us gs d l).length) : (sets us gs d l)[j] = cur us gs d (l.drop j) := by simp [sets]
/-- The row, filled from behind. -/
def fill (us : List Nat) (gs : List Gr) (d : Nat) (l : List Opr) (m : Nat) : List Nat := List.replicate m 0 ++ (sets us gs d l).drop m
theorem fill_start (us : List Nat) (gs : List Gr) (d : Nat) (l : List Opr) : fill us gs d l l.length = List.replicate l.length 0 := by
  unfold fill
  rw [List.drop_of_length_le (by rw [sets_length]; exact Nat.le_refl _), List.append_nil]
theorem fill_end (us : List Nat) (gs : List Gr) (d : Nat) (l : List Opr) : fill us gs d l 0 = sets us gs d l := rfl
theorem fill_set {us : List Nat} {gs : List Gr} {d : Nat} {l : List Opr} {j : Nat} (h : j < l.length) : (fill us gs d l (j + 1)).set j (cur us gs d (l.drop j)) = fill us gs d l j := by
  unfold fill
  have hj : j < (sets us gs d l).length := by rw [sets_length]; exact h
  rw [List.replicate_succ', List.append_assoc, List.set_append_right _ _ (by simp), List.length_replicate, Nat.sub_self, List.drop_eq_getElem_cons hj, sets_at hj]
  rfl
end L
theorem u64Cells_set (l : List Nat) (j x : Nat) : (u64Cells l).set j (.int .u64 (x : Int)) = u64Cells (l.set j x) := by
  unfold u64Cells
  rw [List.map_set]
theorem u64Cells_zeros (n : Nat) : u64Cells (List.replicate n 0) = List.replicate n (.int .u64 0) := by simp [u64Cells]
/-- A stored cell of an own row of numbers. -/
theorem own_store1 {w : World} {base n cap g : Nat} {l : List Nat} (h : w.ownsRow base 53 1 (.slice (some ⟨g, 0, none⟩) n cap) n (u64Cells l)) (j x : Nat) :
    (w.setCell ⟨g, j, none⟩ (.int .u64 (x : Int))).ownsRow base 53 1 (.slice (some ⟨g, 0, none⟩) n cap) n (u64Cells (l.set j x)) := by
  have := (h.stored j (.int .u64 (x : Int))).1
  rw [u64Cells_set] at this
  exact this
theorem own_cell1 {w : World} {base n cap g : Nat} {l : List Nat} (h : w.ownsRow base 53 1 (.slice (some ⟨g, 0, none⟩) n cap) n (u64Cells l)) {j : Nat} (hj : j < n) :
    ∃ v, w.cell? ⟨g, j, none⟩ = some v ∧ w.frozen? ⟨g, j, none⟩ = false := by
  have hl := h.1
  rw [Nat.mul_one] at hl
  exact ⟨(u64Cells l)[j]'(by omega), by rw [h.cellAt _ (by omega)]; exact List.getElem?_eq_getElem _, h.frozenAt _⟩

/-- A configuration's block. -/
def Cb (w : World) (B : Nat) (vn vu vq vg : Value) : Prop := w.heap[B]? = some (.cells #[vn, vu, vq, vg] 27 (0, 0))
theorem Cb.lt {w : World} {B : Nat} {vn vu vq vg : Value} (h : Cb w B vn vu vq vg) : B < w.heap.size := (Array.getElem?_eq_some_iff.1 h).1
theorem Cb.later {w w' : World} {B : Nat} {vn vu vq vg : Value} (h : Cb w B vn vu vq vg) (hb : Below w.heap.size w w') : Cb w' B vn vu vq vg := (hb.block B h.lt).trans h
theorem Cb.cell {w : World} {B : Nat} {vn vu vq vg : Value} (h : Cb w B vn vu vq vg) : w.cell? ⟨B, 0, none⟩ = some vn ∧ w.cell? ⟨B, 1, none⟩ = some vu ∧ w.cell? ⟨B, 2, none⟩ = some vq ∧ w.cell? ⟨B, 3, none⟩ = some vg :=
  ⟨cell_of_row w B 0 _ _ (0, 0) h, cell_of_row w B 1 _ _ (0, 0) h, cell_of_row w B 2 _ _ (0, 0) h, cell_of_row w B 3 _ _ (0, 0) h⟩
theorem Cb.new (w : World) (vn vu vq vg : Value) : Cb (w.alloc (.cells #[vn, vu, vq, vg] 27)) w.heap.size vn vu vq vg := heap_alloc_new w _
theorem Cb.grown {w w' : World} {B : Nat} {vn vu vq vg : Value} {row : Option Nat} (h : Cb w B vn vu vq vg) (hb : w.grownBy w' row) (hB : some B ≠ row) : Cb w' B vn vu vq vg := (hb.block B h.lt hB).trans h
end Go.Proofs.YtmapmeacjpoaoaaDoor
namespace Go.Proofs.YtmapmeacjpoaoaaDoor.Two
open Go Go.RowKit

/-- The same, but for what has been drawn. -/
structure Drew (w w' : World) : Prop where
  heap : w'.heap = w.heap
  os : w'.os = w.os
  tape : w'.tape = w.tape
  output : w'.output = w.output
theorem drew_grow : Grow Drew := ⟨fun _ => ⟨rfl, rfl, rfl, rfl⟩, fun _ _ _ h k => ⟨k.heap.trans h.heap, k.os.trans h.os, k.tape.trans h.tape, k.output.trans h.output⟩⟩
@[go_sem] theorem drew_refl_true (w : World) : Drew w w = True := eq_true (drew_grow.refl w)

section
variable {S R : World → World → Prop} {P : Program} {ops : Array Oper} {md : Region.Mode}

def hOper (R : World → World → Prop) (P : Program) (o : Oper) (a : Act) (w : World) (K : Act → World → Prop) : Prop := yieldsTo R P w (fun v w' => K (a.put o.dst v) w') ((execOp a.eval o).run P w)
def hOp (R : World → World → Prop) (P : Program) (ops : Array Oper) (i : Nat) (K : Act → World → Prop) (a : Act) (w : World) : Prop :=
  match ops[i]? with
  | none => False
  | some o => if Region.wanted o (yielded ops a.tmps) then hOper R P o a w K else K (a.put o.dst undef) w

theorem hOp_mono (gr : Grow R) {i : Nat} {a : Act} {w : World} {K K' : Act → World → Prop} (h : ∀ a w', R w w' → K a w' → K' a w') (hh : hOp R P ops i K a w) : hOp R P ops i K' a w := by
  unfold hOp at *
  split
  · rename_i ho; simp only [ho] at hh
  · rename_i o ho
    simp only [ho] at hh
    split
    · rename_i hw; simp only [hw, if_true] at hh; exact yieldsTo_mono gr (fun v w' hb => h _ _ hb) hh
    · rename_i hw; simp only [hw] at hh; exact h _ _ (gr.refl _) hh

theorem wpOp_of_hOp {i : Nat} {a : Act} {w : World} {K K' : Act → World → Prop} {Q : Exit → Act → World → Prop} (h : ∀ a w', K a w' → K' a w') (hh : hOp R P ops i K a w) : wpOp P ops Q i K' a w := by
  unfold hOp at hh
  unfold wpOp
  split
  · rename_i ho; simp only [ho] at hh
  · rename_i o ho
    simp only [ho] at hh
    split
    · rename_i hw
      simp only [hw, if_true] at hh
      refine .inl ?_
      unfold hOper at hh
      unfold Oper.wp
      generalize (execOp a.eval o).run P w = r at *
      cases r with
      | ok n w' =>
        cases n <;> simp only [yieldsTo] at hh <;> simp only [Oper.upon] <;> first
          | exact hh.elim
          | exact h _ _ hh.2
          | exact hh.2.mono fun e w'' ⟨v, h1, h2, h3⟩ => by subst h1; exact h _ _ h3
      | halt x w' => exact hh.elim
    · rename_i hw; simp only [hw] at hh; exact h _ _ hh

def wpAnyE (S R : World → World → Prop) (P : Program) (md : Region.Mode) (ops : Array Oper) (Q : Act → World → Prop) : Nat → Array Bool → Act → World → Prop
  | 0, listed, a, w => Region.ready md ops listed = [] ∧ ∀ w', S w w' → Q a w'
  | fuel + 1, listed, a, w =>
    (Region.ready md ops listed = [] → ∀ w', S w w' → Q a w') ∧
    ∀ i ∈ Region.ready md ops listed, ∀ w1, S w w1 → hOp R P ops i (wpAnyE S R P md ops Q fuel (listed.setIfInBounds i true)) a w1

theorem wpAnyE_later (gs : Grow S) {Q : Act → World → Prop} {fuel : Nat} {listed : Array Bool} {a : Act} {w w' : World} (hb : S w w') (h : wpAnyE S R P md ops Q fuel listed a w) : wpAnyE S R P md ops Q fuel listed a w' := by
  cases fuel with
  | zero => exact ⟨h.1, fun w'' h'' => h.2 w'' (gs.trans _ _ _ hb h'')⟩
  | succ fuel => exact ⟨fun h0 w'' h'' => h.1 h0 w'' (gs.trans _ _ _ hb h''), fun i hi w1 h1 => h.2 i hi w1 (gs.trans _ _ _ hb h1)⟩

theorem wpAny_of_E (gs : Grow S) {Q : Act → World → Prop} {Q' : Exit → Act → World → Prop} (hQ : ∀ a w, Q a w → Q' .normal a w) : ∀ (fuel : Nat) (listed : Array Bool) (a : Act) (w : World),
    wpAnyE S R P md ops Q fuel listed a w → wpAny P md ops Q' fuel listed a w
  | 0, _, _, _, h => ⟨h.1, hQ _ _ (h.2 _ (gs.refl _))⟩
  | fuel + 1, _, _, _, h => ⟨fun h0 => hQ _ _ (h.1 h0 _ (gs.refl _)), fun i hi => wpOp_of_hOp (fun a' w' => wpAny_of_E gs hQ fuel _ a' w') (h.2 i hi _ (gs.refl _))⟩

/-- One value, in every later world. -/
def yieldsV (S : World → World → Prop) (P : Program) (w : World) (v : Value) : Result Next → Prop
  | .ok (.value u) w' => S w w' ∧ u = v
  | .ok .skip w' => S w w' ∧ undef = v
  | .ok (.enter f args) w' => S w w' ∧ Calls P f args w' (fun e w'' => e = .returned v ∧ S w' w'')
  | _ => False
def soft (S R : World → World → Prop) (P : Program) (o : Oper) (a : Act) (W : World) (K : Act → Prop) : Prop := ∃ v, (∀ x : LaterR R W, yieldsV S P x.1 v ((execOp a.eval o).run P x.1)) ∧ K (a.put o.dst v)

def YieldsE (S R : World → World → Prop) (P : Program) (ops : Array Oper) (W : World) (o : Oper) (v : Value) (a : Act) : Prop :=
  (Region.wanted o (yielded ops a.tmps) = true ∧ ∀ x : LaterR R W, yieldsV S P x.1 v ((execOp a.eval o).run P x.1)) ∨ (Region.wanted o (yielded ops a.tmps) = false ∧ v = undef)

theorem YieldsE.later (gr : Grow R) {W W' : World} {o : Oper} {v : Value} {a : Act} (h : YieldsE S R P ops W o v a) (hb : R W W') : YieldsE S R P ops W' o v a := by
  rcases h with ⟨h1, h2⟩ | h
  · exact .inl ⟨h1, fun x => h2 ⟨x.1, gr.trans _ _ _ hb x.2⟩⟩
  · exact .inr h

theorem YieldsE.hOp {i : Nat} {o : Oper} {v : Value} {a : Act} {W : World} (gs : Grow S) (sub : ∀ a b, S a b → R a b) (hi : ops[i]? = some o) (hy : YieldsE S R P ops W o v a) {K : Act → World → Prop} {w1 : World} (hb : S W w1)
    (h : ∀ w', S W w' → K (a.put o.dst v) w') : hOp R P ops i K a w1 := by
  unfold Go.Proofs.YtmapmeacjpoaoaaDoor.Two.hOp
  simp only [hi]
  rcases hy with ⟨hw, hv⟩ | ⟨hw, rfl⟩
  · simp only [hw, if_true]
    have h3 := hv ⟨w1, sub _ _ hb⟩
    unfold hOper
    dsimp only at h3
    generalize (execOp a.eval o).run P w1 = r at *
    cases r with
    | ok n w' =>
      cases n <;> simp only [yieldsV] at h3 <;> simp only [yieldsTo] <;> first
        | exact h3.elim
        | (obtain ⟨h4, rfl⟩ := h3; exact ⟨sub _ _ h4, h _ (gs.trans _ _ _ hb h4)⟩)
        | exact ⟨sub _ _ h3.1, h3.2.mono fun e w'' ⟨h5, h6⟩ => ⟨v, h5, sub _ _ h6, h _ (gs.trans _ _ _ hb (gs.trans _ _ _ h3.1 h6))⟩⟩
    | halt x w' => exact h3.elim
  · simp only [hw, Bool.false_eq_true, if_false]
    exact h _ hb

theorem YieldsE.of_same {o : Oper} {v : Value} {a a' : Act} {W : World} (hy : YieldsE S R P ops W o v a) (he : execOp a'.eval o = execOp a.eval o)
    (hw : Region.wanted o (yielded ops a'.tmps) = Region.wanted o (yielded ops a.tmps)) : YieldsE S R P ops W o v a' := by
  unfold YieldsE at *
  rw [he, hw]
  exact hy

theorem hOp_put (gr : Grow R) {j : Nat} {oi oj : Oper} {v : Value} {W : World} (hj : ops[j]? = some oj) (hap : oi.apart ops oj = true)
    (hsi : ∀ cs b, oi.op ≠ .select cs b) (hsj : ∀ cs b, oj.op ≠ .select cs b) {K : Act → World → Prop} {a : Act} {w : World}
    (hy : YieldsE S R P ops W oi v a) (h : hOp R P ops j K (a.put oi.dst v) w) :
    hOp R P ops j (fun a' w' => YieldsE S R P ops W oi v a' ∧ K (a'.put oi.dst v) w') a w := by
  obtain ⟨h1, h2, h3⟩ := Oper.apart_spec hap
  have keep : ∀ (a : Act), YieldsE S R P ops W oi v a → ∀ u, YieldsE S R P ops W oi v (a.put oj.dst u) := fun a hy u =>
    hy.of_same (execOp_put oi hsi a oj.dst u h3) (wanted_put oi a oj.dst u h3)
  unfold hOp at *
  simp only [hj] at *
  rw [wanted_put oj a oi.dst v h1] at h
  split
  · rename_i hw
    simp only [hw, if_true] at h
    unfold hOper at *
    rw [execOp_put oj hsj a oi.dst v h1] at h
    refine yieldsTo_mono gr (fun u w' _ hk => ⟨keep a hy u, ?_⟩) h
    rw [← Act.put_comm a v u h2]
    exact hk
  · rename_i hw
    simp only [hw] at h
    exact ⟨keep a hy _, by rw [← Act.put_comm a v undef h2]; exact h⟩

theorem wpAnyE_first (gs : Grow S) (gr : Grow R) (sub : ∀ a b, S a b → R a b) {Q : Act → World → Prop} {i : Nat} {oi : Oper} {v : Value} (hi : ops[i]? = some oi) (hsel : ∀ (j : Nat) (o : Oper) cs b, ops[j]? = some o → o.op ≠ .select cs b) :
    ∀ (fuel : Nat) (listed : Array Bool) (a : Act) (W : World),
      (∀ j oj, ops[j]? = some oj → j ≠ i → listed.getD j true = false → (∀ e ∈ oj.after, Region.binds md e = true → e.on ≠ i) → oi.apart ops oj = true) →
      i ∈ Region.ready md ops listed → YieldsE S R P ops W oi v a →
      wpAnyE S R P md ops Q fuel (listed.setIfInBounds i true) (a.put oi.dst v) W → wpAnyE S R P md ops Q (fuel + 1) listed a W := by
  intro fuel
  induction fuel with
  | zero =>
    intro listed a W _ hr hy H
    refine ⟨fun h => (by rw [h] at hr; cases hr), fun j hj w1 hb => ?_⟩
    by_cases hji : j = i
    · subst hji; exact hy.hOp gs sub hi hb fun w' hb' => wpAnyE_later gs hb' H
    · have := ready_mono hj hji
      rw [H.1] at this
      cases this
  | succ fuel ih =>
    intro listed a W hfree hr hy H
    refine ⟨fun h => (by rw [h] at hr; cases hr), fun j hj w1 hb => ?_⟩
    by_cases hji : j = i
    · subst hji; exact hy.hOp gs sub hi hb fun w' hb' => wpAnyE_later gs hb' H
    · have h1 := H.2 j (ready_mono hj hji) w1 hb
      obtain ⟨hjun, oj, hoj, hall⟩ := mem_ready.1 hj
      have hnot : ∀ e ∈ oj.after, Region.binds md e = true → e.on ≠ i := fun e he hbd heq => by
        have h1 := hall e he hbd
        have h0 := (mem_ready.1 hr).1
        rw [heq] at h1
        rcases Nat.lt_or_ge i listed.size with h' | h'
        · simp [h'] at h0 h1; rw [h0] at h1; cases h1
        · simp [Array.getElem?_eq_none h'] at h1
      have h2 := hOp_put gr hoj (hfree j oj hoj hji hjun hnot) (fun cs b => hsel i oi cs b hi) (fun cs b => hsel j oj cs b hoj) hy h1
      have hfree' : ∀ k ok, ops[k]? = some ok → k ≠ i → (listed.setIfInBounds j true).getD k true = false →
          (∀ e ∈ ok.after, Region.binds md e = true → e.on ≠ i) → oi.apart ops ok = true := fun k ok hk hki hun hno => by
        refine hfree k ok hk hki ?_ hno
        by_cases hjk : j = k
        · subst hjk; exact hjun
        · rw [getD_set_ne true hjk] at hun; exact hun
      refine hOp_mono gr (fun a' w' hb' h3 => ih (listed.setIfInBounds j true) a' w' hfree' (ready_mono hr (Ne.symm hji)) (h3.1.later gr (gr.trans _ _ _ (sub _ _ hb) hb')) ?_) h2
      rw [Array.setIfInBounds_comm _ _ hji]
      exact h3.2

/-- The walk in one order; 'true': a loud operation. -/
def mix (S R : World → World → Prop) (P : Program) (ops : Array Oper) (Q : Act → World → Prop) : List (Nat × Bool) → Act → World → Prop
  | [], a, w => ∀ w', S w w' → Q a w'
  | (i, false) :: rest, a, w => ∃ o, ops[i]? = some o ∧ if Region.wanted o (yielded ops a.tmps) then soft S R P o a w (fun a' => mix S R P ops Q rest a' w) else mix S R P ops Q rest (a.put o.dst undef) w
  | (i, true) :: rest, a, w => ∃ o, ops[i]? = some o ∧ if Region.wanted o (yielded ops a.tmps) then ∀ x : LaterR S w, hOper R P o a x.1 (mix S R P ops Q rest) else mix S R P ops Q rest (a.put o.dst undef) w

def mixOk (md : Region.Mode) (ops : Array Oper) : List (Nat × Bool) → Array Bool → Bool
  | [], listed => (Region.ready md ops listed).isEmpty
  | (i, false) :: rest, listed => (Region.ready md ops listed).contains i && Region.free md ops listed i && mixOk md ops rest (listed.setIfInBounds i true)
  | (i, true) :: rest, listed => (Region.ready md ops listed == [i]) && mixOk md ops rest (listed.setIfInBounds i true)
def mixB (ops : Array Oper) (order : List (Nat × Bool)) : Bool := Region.noSelect ops && order.length == ops.size && mixOk .any ops order (Array.replicate ops.size false)

theorem mix_sound (gs : Grow S) (gr : Grow R) (sub : ∀ a b, S a b → R a b) {Q : Act → World → Prop} (hs : Region.noSelect ops = true) : ∀ (l : List (Nat × Bool)) (listed : Array Bool) (a : Act) (w : World),
    mixOk md ops l listed = true → mix S R P ops Q l a w → wpAnyE S R P md ops Q l.length listed a w
  | [], _, _, _, hB, h => ⟨by simpa [mixOk] using hB, h⟩
  | (i, false) :: l, listed, a, w, hB, h => by
    simp only [mixOk, Bool.and_eq_true] at hB
    obtain ⟨⟨hr, hf⟩, hB'⟩ := hB
    obtain ⟨o, ho, h⟩ := h
    have hy : ∃ v, YieldsE S R P ops w o v a ∧ mix S R P ops Q l (a.put o.dst v) w := by
      split at h
      · rename_i hw
        obtain ⟨v, h1, h2⟩ := h
        exact ⟨v, .inl ⟨hw, h1⟩, h2⟩
      · rename_i hw
        exact ⟨undef, .inr ⟨by simpa using hw, rfl⟩, h⟩
    obtain ⟨v, hy, hK⟩ := hy
    exact wpAnyE_first gs gr sub ho (Region.noSelect_spec hs) l.length listed a w (Region.free_spec ho hf) (by simpa using hr) hy (mix_sound gs gr sub hs l _ _ _ hB' hK)
  | (i, true) :: l, listed, a, w, hB, h => by
    simp only [mixOk, Bool.and_eq_true, beq_iff_eq] at hB
    obtain ⟨hr, hB'⟩ := hB
    obtain ⟨o, ho, h⟩ := h
    refine ⟨fun h0 => (by rw [hr] at h0; cases h0), fun j hj w1 hb => ?_⟩
    rw [hr, List.mem_singleton] at hj
    subst hj
    unfold hOp
    simp only [ho]
    split at h
    · rename_i hw
      simp only [hw, if_true]
      exact yieldsTo_mono gr (fun v w' _ hk => mix_sound gs gr sub hs l _ _ _ hB' hk) (h ⟨w1, hb⟩)
    · rename_i hw
      simp only [hw]
      exact wpAnyE_later gs hb (mix_sound gs gr sub hs l _ _ _ hB' h)

end
attribute [go_sem] soft yieldsV hOper

end Go.Proofs.YtmapmeacjpoaoaaDoor.Two
