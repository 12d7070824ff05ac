/- 'for x := range f': a range over a function whose iterator writes cells of its own between two rounds. The statement's law, at an outermost loop and at one within a round; out of the machine's steps (Derived/RangeFuncIn, RangeFuncRecord). No program. -/
import Derived.Test.YtljpfocmnppjgaaDoorBase
import Derived.RangeFuncNested
import Derived.RangeFuncLeaves
import Derived.RangeFuncCalls
namespace Go.Proofs.YtljpfocmnppjgaaDoor
open Go Go.RowKit

section
variable {F : Fence} {n : Nat} {P : Program} {α : Type}

/-- The iterator gf (which has captured lb), called with a loop's yield: it hands over encs x, one after the other; between two rounds it turns the world by T alone; Kp: what a round that goes on must keep for it; S: all have come; Sp: a round has said 'no more'. -/
def IterIn (F : Fence) (n : Nat) (P : Program) (gf : Nat) (lb : Array Value) (encs : α → Array Value) (T Kp : World → World → Prop) (Ok : List α → α → Prop) (S Sp : List α → Prop) (Start : World → Prop) : Prop :=
  ∀ (l : Nat) (J Jx : List α → World → Prop) (W : World), Start W → (∀ s A B, J s A → T A B → J s B) →
    (∀ pre x W1, J pre W1 → Ok pre x → YieldAt F (n - 1) P l (encs x) W1 fun e W' =>
      (e = .returned (.bool true) ∧ J (pre ++ [x]) W' ∧ Kp W1 W') ∨ (e = .returned (.bool false) ∧ Jx (pre ++ [x]) W')) →
    J [] W →
    CallsIn F n P gf (#[.func (.yield l) #[] #[]] ++ lb) W fun e W' => (∃ v, e = .returned v) ∧ ((∃ xs, S xs ∧ J xs W') ∨ (∃ pre, Sp pre ∧ Jx pre W'))

/-- How a round's body is left: from the world W, in which the round began, the body in W2. -/
def roundOut (B : Nat) (Kp : World → World → Prop) (I : List α → World → Prop) (Ix : Code → List α → World → Prop) (xs : List α) (W W2 : World) : Exit → Act → World → Prop
  | .normal, _, W' => KeepsFrom B W2 W' ∧ Kp W W' ∧ I xs W'
  | .ret, _, W' => KeepsFrom B W2 W' ∧ Ix .ret xs W'
  | .exit id, _, W' => KeepsFrom B W2 W' ∧ Ix (.exit id) xs W'
  | .goto t, _, W' => KeepsFrom B W2 W' ∧ Ix (.goto t) xs W'
  | .panic _, _, _ => False
  | .outgrown, _, _ => False

/-- The loop's record. -/
def recOf (fn : FuncId) (tmps : Array Value) (ps : Array Tmp) (assign body : Code) (d : Nat) (st : LoopState) (pe : Option Code) : Loop :=
  { state := st, pending := pe, fn, tmps, params := ps, assign, body, defers := d }

/-- The block of a loop's deferred calls, where there is one. -/
def markAt (D : Option Nat) (W : World) : Prop := ∀ d, D = some d → W.heap[d]? = some (.deferred (some []))

theorem markAt_keeps {D : Option Nat} {B : Nat} {W W' : World} (h : markAt D W) (hk : KeepsFrom B W W') (hB : ∀ d, D = some d → B ≤ d) : markAt D W' :=
  fun d hd => hk.same d _ (hB d hd) (h d hd) rfl
theorem markAt_put {D : Option Nat} {l : Nat} {o : Obj} {W : World} (h : markAt D W) (hl : ∀ d, D = some d → d ≠ l) : markAt D (W.putObj l o) :=
  fun d hd => (World.putObj_heap_other (hl d hd)).trans (h d hd)

/-- A round, as the iterator's call of yield meets it. -/
theorem round_yield {fn : FuncId} {tmps : Array Value} {ps : Array Tmp} {assign body : Code} {encs : α → Array Value} {B l dd : Nat} {D : Option Nat} {m : Nat} {Kp : World → World → Prop} {I : List α → World → Prop} {Ix : Code → List α → World → Prop} {Ok : List α → α → Prop}
    (hfn : F.fn fn) (hps : ∀ x, (encs x).size = ps.size) (hBl : B ≤ l) (hDB : ∀ d, D = some d → B ≤ d) (hDl : ∀ d, D = some d → d ≠ l)
    (hKt : ∀ {A B C : World}, Kp A B → Kp B C → Kp A C) (hKb : ∀ (W : World) (o : Obj), Kp W (W.putObj l o))
    (hIb : ∀ s W o o', I s W → W.heap[l]? = some o → o.isCells = false → I s (W.putObj l o'))
    (hIxb : ∀ c s W o o', Ix c s W → W.heap[l]? = some o → o.isCells = false → Ix c s (W.putObj l o'))
    (hround : ∀ pre x W, (∃ r, W.heap[l]? = some (.loop r)) → I pre W → Ok pre x →
      assign.wpIn (F.inRound l) m P (Exit.then (fun a₁ W₁ => KeepsFrom B W W₁ ∧ ∀ r', body.wpIn (F.inRound l) m P (roundOut B Kp I Ix (pre ++ [x]) W (W₁.putObj l (.loop r'))) a₁ (W₁.putObj l (.loop r'))) (fun _ _ _ => False))
        { tmps := (ps.zip (encs x)).foldl (fun t (p, v) => t.setIfInBounds p v) tmps, defers := [] } W) :
    ∀ pre x W1, (I pre W1 ∧ W1.heap[l]? = some (.loop (recOf fn tmps ps assign body dd .ready none)) ∧ markAt D W1) → Ok pre x →
      YieldAt F m P l (encs x) W1 fun e W' =>
        (e = .returned (.bool true) ∧ (I (pre ++ [x]) W' ∧ W'.heap[l]? = some (.loop (recOf fn tmps ps assign body dd .ready none)) ∧ markAt D W') ∧ Kp W1 W') ∨
        (e = .returned (.bool false) ∧ (∃ c, Ix c (pre ++ [x]) W' ∧ W'.heap[l]? = some (.loop (recOf fn tmps ps assign body dd .done (some c))) ∧ markAt D W')) := by
  rintro pre x W1 ⟨hi, hl, hD⟩ hok
  have hy := run_yield (P := P) (args := encs x) hl (hps x)
  refine ⟨fn, _, assign, body, hy, roundIn_of_wpIn hfn (wpIn_mono (hround pre x W1 ⟨_, hl⟩ hi hok) ?_)⟩
  intro e a₁ W₂ h
  cases e with
  | normal =>
    obtain ⟨hk, hbody⟩ := h
    have hl2 : W₂.heap[l]? = some (.loop (recOf fn tmps ps assign body dd .ready none)) := hk.same l _ hBl hl rfl
    have hD2 := markAt_keeps hD hk hDB
    refine ⟨_, run_beginRound hl2 rfl, wpIn_mono (hbody _) ?_⟩
    have hlt : l < W₂.heap.size := (Array.getElem?_eq_some_iff.1 hl2).1
    have fin : ∀ (jump : Option Code) (W3 : World), KeepsFrom B (W₂.putObj l (.loop { recOf fn tmps ps assign body dd .ready none with state := .busy })) W3 →
        (Instr.endRound l jump).run P W3 = .ok (.bool jump.isNone) (W3.putObj l (.loop (recOf fn tmps ps assign body dd (if jump.isNone then .ready else .done) jump))) ∧
        W3.heap[l]? = some (.loop { recOf fn tmps ps assign body dd .ready none with state := .busy }) ∧
        (W3.putObj l (.loop (recOf fn tmps ps assign body dd (if jump.isNone then .ready else .done) jump))).heap[l]? = some (.loop (recOf fn tmps ps assign body dd (if jump.isNone then .ready else .done) jump)) ∧
        markAt D (W3.putObj l (.loop (recOf fn tmps ps assign body dd (if jump.isNone then .ready else .done) jump))) := by
      intro jump W3 hk3
      have h3 := hk3.same l _ hBl (World.putObj_heap_same hlt) rfl
      exact ⟨run_endRound jump h3, h3, World.putObj_heap_same (Array.getElem?_eq_some_iff.1 h3).1, markAt_put (markAt_keeps (markAt_put hD2 hDl) hk3 hDB) hDl⟩
    intro e3 a3 W3 h3
    cases e3 with
    | normal =>
      obtain ⟨hk3, hkp, hi3⟩ := h3
      obtain ⟨r1, r2, r3, r4⟩ := fin none W3 hk3
      exact ⟨_, _, r1, .inl ⟨rfl, ⟨hIb _ _ _ _ hi3 r2 rfl, r3, r4⟩, hKt hkp (hKb _ _)⟩⟩
    | ret =>
      obtain ⟨hk3, hi3⟩ := h3
      obtain ⟨r1, r2, r3, r4⟩ := fin (some .ret) W3 hk3
      exact ⟨_, _, r1, .inr ⟨rfl, .ret, hIxb _ _ _ _ _ hi3 r2 rfl, r3, r4⟩⟩
    | exit id =>
      obtain ⟨hk3, hi3⟩ := h3
      obtain ⟨r1, r2, r3, r4⟩ := fin (some (.exit id)) W3 hk3
      exact ⟨_, _, r1, .inr ⟨rfl, .exit id, hIxb _ _ _ _ _ hi3 r2 rfl, r3, r4⟩⟩
    | goto t =>
      obtain ⟨hk3, hi3⟩ := h3
      obtain ⟨r1, r2, r3, r4⟩ := fin (some (.goto t)) W3 hk3
      exact ⟨_, _, r1, .inr ⟨rfl, .goto t, hIxb _ _ _ _ _ hi3 r2 rfl, r3, r4⟩⟩
    | panic ch => exact h3.elim
    | outgrown => exact h3.elim
  | ret => exact h.elim
  | exit id => exact h.elim
  | goto t => exact h.elim
  | panic ch => exact h.elim
  | outgrown => exact h.elim

/-- The statement at an outermost loop. -/
theorem range_outer {g : Operand} {ps : Array Tmp} {assign body : Code} {Q : Exit → Act → World → Prop} {a : Act} {w : World}
    (hro : F.round = none) (h1 : 1 ≤ n) {gf : Nat} {lb : Array Value} (hg : a.eval g = .func (.func gf) #[] lb) (hFg : F.fn gf) (eg : ∀ args w, (callFunc gf args).run P w = .ok (.enter gf args) w)
    {encs : α → Array Value} {T Kp : World → World → Prop} {Ok : List α → α → Prop} {S Sp : List α → Prop} {Start : World → Prop} (hit : IterIn F (n - 1) P gf lb encs T Kp Ok S Sp Start) (hps : ∀ x, (encs x).size = ps.size)
    (hTo : ∀ (A B : World) (k : Nat) (o : Obj), T A B → A.heap[k]? = some o → o.isCells = false → B.heap[k]? = some o)
    (hKt : ∀ {A B C : World}, Kp A B → Kp B C → Kp A C) (hKb : ∀ (W : World) (l : Nat) (o : Obj), w.heap.size ≤ l → Kp W (W.putObj l o))
    (I : List α → World → Prop) (Ix : Code → List α → World → Prop)
    (hIT : ∀ s A B, I s A → T A B → I s B)
    (hIb : ∀ s W l o o', w.heap.size ≤ l → I s W → W.heap[l]? = some o → o.isCells = false → I s (W.putObj l o'))
    (hIxb : ∀ c s W l o o', w.heap.size ≤ l → Ix c s W → W.heap[l]? = some o → o.isCells = false → Ix c s (W.putObj l o'))
    (h0 : ∀ r, I [] ((w.alloc (.deferred (some []))).alloc (.loop r))) (hstart : ∀ r, Start ((w.alloc (.deferred (some []))).alloc (.loop r)))
    (hround : ∀ l pre x W, w.heap.size ≤ l → (∃ r, W.heap[l]? = some (.loop r)) → I pre W → Ok pre x →
      assign.wpIn (F.inRound l) (n - 1 - 1) P (Exit.then (fun a₁ W₁ => KeepsFrom w.heap.size W W₁ ∧ ∀ r', body.wpIn (F.inRound l) (n - 1 - 1) P (roundOut w.heap.size Kp I Ix (pre ++ [x]) W (W₁.putObj l (.loop r'))) a₁ (W₁.putObj l (.loop r'))) (fun _ _ _ => False))
        { tmps := (ps.zip (encs x)).foldl (fun t (p, v) => t.setIfInBounds p v) a.tmps, defers := [] } W)
    (hdone : ∀ xs W, S xs → I xs W → W.heap[w.heap.size]? = some (.deferred (some [])) → Q .normal { a with defers := { target := .collected w.heap.size, args := #[] } :: a.defers } W)
    (hstop : ∀ c pre W, Sp pre → Ix c pre W → W.heap[w.heap.size]? = some (.deferred (some [])) → c.wpIn F n P Q { a with defers := { target := .collected w.heap.size, args := #[] } :: a.defers } W) :
    (Code.rangeFunc g ps assign body).wpIn F n P Q a w := by
  refine wpIn_rangeFunc ?_
  intro fn hfn
  rw [hro]
  have hW1 : ∀ r, ((w.alloc (.deferred (some []))).alloc (.loop r)).heap[w.heap.size + 1]? = some (.loop r) := fun r => by
    have := World.alloc_heap_new (w.alloc (.deferred (some []))) (.loop r)
    rwa [World.size_alloc] at this
  have hD1 : ∀ r, ((w.alloc (.deferred (some []))).alloc (.loop r)).heap[w.heap.size]? = some (.deferred (some [])) := fun r =>
    (Below.heap_alloc _ _ _ (by simp)).trans (World.alloc_heap_new w _)
  have hm : ∀ {d : Nat}, some w.heap.size = some d → w.heap.size ≤ d ∧ d ≠ w.heap.size + 1 := fun e => by cases e; omega
  refine ⟨w.heap.size + 1, [{ target := .collected w.heap.size, args := #[] }], ((w.alloc (.deferred (some []))).alloc (.loop (recOf fn a.tmps ps assign body w.heap.size .ready none))), { target := .fn (.func gf) lb, args := #[.func (.yield (w.heap.size + 1)) #[] #[]] }, ((w.alloc (.deferred (some []))).alloc (.loop (recOf fn a.tmps ps assign body w.heap.size .ready none))), gf,
    #[.func (.yield (w.heap.size + 1)) #[] #[]] ++ lb, ((w.alloc (.deferred (some []))).alloc (.loop (recOf fn a.tmps ps assign body w.heap.size .ready none))), run_enterLoop_outer _ _ _ _ _, ?_, ?_, ?_, fun _ => h1, ?_⟩
  · simp only [resolve, hg]
    simp [go_sem]
  · intro f' hf'
    simp [Target.leads] at hf'
    subst hf'
    exact hFg
  · simp [invoke, go_sem, eg]
  · refine (hit (w.heap.size + 1) (fun pre W => I pre W ∧ W.heap[w.heap.size + 1]? = some (.loop (recOf fn a.tmps ps assign body w.heap.size .ready none)) ∧ markAt (some w.heap.size) W)
      (fun pre W => ∃ c, Ix c pre W ∧ W.heap[w.heap.size + 1]? = some (.loop (recOf fn a.tmps ps assign body w.heap.size .done (some c))) ∧ markAt (some w.heap.size) W) _ (hstart _)
      (fun s A B h hT => ⟨hIT s A B h.1 hT, hTo A B _ _ hT h.2.1 rfl, fun d hd => hTo A B _ _ hT (h.2.2 d hd) rfl⟩)
      (round_yield hfn hps (by omega) (fun d e => (hm e).1) (fun d e => (hm e).2) hKt (fun W o => hKb W _ o (by omega)) (fun s W o o' => hIb s W _ o o' (by omega)) (fun c s W o o' => hIxb c s W _ o o' (by omega))
        (fun pre x W => hround (w.heap.size + 1) pre x W (by omega)))
      ⟨h0 _, hW1 _, fun d hd => by cases hd; exact hD1 _⟩).mono ?_
    rintro e W2 ⟨⟨v, rfl⟩, (⟨xs, hS, hi, hl, hk⟩ | ⟨pre, hSp, c, hi, hl, hk⟩)⟩
    · refine ⟨none, _, run_endLoop hl (by simp [recOf]), hdone xs _ hS (hIb _ _ _ _ _ (by omega) hi hl rfl) ((World.putObj_heap_other (by omega)).trans (hk _ rfl))⟩
    · refine ⟨some c, _, run_endLoop hl (by simp [recOf]), hstop c pre _ hSp (hIxb _ _ _ _ _ _ (by omega) hi hl rfl) ((World.putObj_heap_other (by omega)).trans (hk _ rfl))⟩

/-- The statement within a round of another loop. -/
theorem range_inner {g : Operand} {ps : Array Tmp} {assign body : Code} {Q : Exit → Act → World → Prop} {a : Act} {w : World} {l₀ : Nat} {r₀ : Loop}
    (hro : F.round = some l₀) (hl₀ : w.heap[l₀]? = some (.loop r₀)) (h1 : 1 ≤ n) {gf : Nat} {lb : Array Value} (hg : a.eval g = .func (.func gf) #[] lb) (hFg : F.fn gf) (eg : ∀ args w, (callFunc gf args).run P w = .ok (.enter gf args) w)
    {encs : α → Array Value} {T Kp : World → World → Prop} {Ok : List α → α → Prop} {S Sp : List α → Prop} {Start : World → Prop} (hit : IterIn F (n - 1) P gf lb encs T Kp Ok S Sp Start) (hps : ∀ x, (encs x).size = ps.size)
    (hTo : ∀ (A B : World) (k : Nat) (o : Obj), T A B → A.heap[k]? = some o → o.isCells = false → B.heap[k]? = some o)
    (hKt : ∀ {A B C : World}, Kp A B → Kp B C → Kp A C) (hKb : ∀ (W : World) (l : Nat) (o : Obj), w.heap.size ≤ l → Kp W (W.putObj l o))
    (I : List α → World → Prop) (Ix : Code → List α → World → Prop)
    (hIT : ∀ s A B, I s A → T A B → I s B)
    (hIb : ∀ s W l o o', w.heap.size ≤ l → I s W → W.heap[l]? = some o → o.isCells = false → I s (W.putObj l o'))
    (hIxb : ∀ c s W l o o', w.heap.size ≤ l → Ix c s W → W.heap[l]? = some o → o.isCells = false → Ix c s (W.putObj l o'))
    (h0 : ∀ r, I [] (w.alloc (.loop r))) (hstart : ∀ r, Start (w.alloc (.loop r)))
    (hround : ∀ l pre x W, w.heap.size ≤ l → (∃ r, W.heap[l]? = some (.loop r)) → I pre W → Ok pre x →
      assign.wpIn (F.inRound l) (n - 1 - 1) P (Exit.then (fun a₁ W₁ => KeepsFrom w.heap.size W W₁ ∧ ∀ r', body.wpIn (F.inRound l) (n - 1 - 1) P (roundOut w.heap.size Kp I Ix (pre ++ [x]) W (W₁.putObj l (.loop r'))) a₁ (W₁.putObj l (.loop r'))) (fun _ _ _ => False))
        { tmps := (ps.zip (encs x)).foldl (fun t (p, v) => t.setIfInBounds p v) a.tmps, defers := [] } W)
    (hdone : ∀ xs W, S xs → I xs W → Q .normal a W)
    (hstop : ∀ c pre W, Sp pre → Ix c pre W → c.wpIn F n P Q a W) :
    (Code.rangeFunc g ps assign body).wpIn F n P Q a w := by
  refine wpIn_rangeFunc ?_
  intro fn hfn
  rw [hro]
  have hW1 : ∀ r, (w.alloc (.loop r)).heap[w.heap.size]? = some (.loop r) := fun r => World.alloc_heap_new w (.loop r)
  have hm : ∀ {d : Nat} {p : Prop}, none = some d → p := fun e => by cases e
  refine ⟨w.heap.size, [], (w.alloc (.loop (recOf fn a.tmps ps assign body r₀.defers .ready none))), { target := .fn (.func gf) lb, args := #[.func (.yield w.heap.size) #[] #[]] }, (w.alloc (.loop (recOf fn a.tmps ps assign body r₀.defers .ready none))), gf,
    #[.func (.yield w.heap.size) #[] #[]] ++ lb, (w.alloc (.loop (recOf fn a.tmps ps assign body r₀.defers .ready none))), run_enterLoop_inner hl₀ _ _ _ _ _, ?_, ?_, ?_, fun _ => h1, ?_⟩
  · simp only [resolve, hg]
    simp [go_sem]
  · intro f' hf'
    simp [Target.leads] at hf'
    subst hf'
    exact hFg
  · simp [invoke, go_sem, eg]
  · refine (hit w.heap.size (fun pre W => I pre W ∧ W.heap[w.heap.size]? = some (.loop (recOf fn a.tmps ps assign body r₀.defers .ready none)) ∧ markAt none W)
      (fun pre W => ∃ c, Ix c pre W ∧ W.heap[w.heap.size]? = some (.loop (recOf fn a.tmps ps assign body r₀.defers .done (some c))) ∧ markAt none W) _ (hstart _)
      (fun s A B h hT => ⟨hIT s A B h.1 hT, hTo A B _ _ hT h.2.1 rfl, fun d hd => hm hd⟩)
      (round_yield hfn hps (Nat.le_refl _) (fun d e => hm e) (fun d e => hm e) hKt (fun W o => hKb W _ o (Nat.le_refl _)) (fun s W o o' => hIb s W _ o o' (Nat.le_refl _)) (fun c s W o o' => hIxb c s W _ o o' (Nat.le_refl _))
        (fun pre x W => hround w.heap.size pre x W (Nat.le_refl _)))
      ⟨h0 _, hW1 _, fun d hd => hm hd⟩).mono ?_
    rintro e W2 ⟨⟨v, rfl⟩, (⟨xs, hS, hi, hl, hk⟩ | ⟨pre, hSp, c, hi, hl, hk⟩)⟩
    · exact ⟨none, _, run_endLoop hl (by simp [recOf]), hdone xs _ hS (hIb _ _ _ _ _ (Nat.le_refl _) hi hl rfl)⟩
    · exact ⟨some c, _, run_endLoop hl (by simp [recOf]), hstop c pre _ hSp (hIxb _ _ _ _ _ _ (Nat.le_refl _) hi hl rfl)⟩
end
end Go.Proofs.YtljpfocmnppjgaaDoor
