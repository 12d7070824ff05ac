/- What lattice.least returns: the first of some that flows to all of them. -/
import Derived.Test.YtnfhhhcbgipmcaaDoorList
import Derived.Test.YtnfhhhcbgipmcaaDoorLatPlain
namespace Go.Proofs.YtnfhhhcbgipmcaaDoor
open Go Go.RowKit Go.Shelf
attribute [local go_sem] Oper.semAt_some

/-- Between two rounds: what least has laid. -/
structure LeastAt (w : World) (x : Nat) (fv : Value) (r : Int) (W : World) : Prop where
  bx : W.heap[w.heap.size]? = some (.cells #[.int .u64 (x : Int)] 25 (0, 0))
  bf : W.heap[w.heap.size + 1]? = some (.cells #[fv] 67 (0, 0))
  br : W.heap[w.heap.size + 2]? = some (.cells #[.int .i64 r] 3 (0, 0))
  below : Below w.heap.size w W
theorem LeastAt.later {w W W' : World} {x p : Nat} {fv : Value} {r : Int} (h : LeastAt w x fv r W) (hb : Below p W W') (hp : w.heap.size + 3 ≤ p) : LeastAt w x fv r W' :=
  ⟨(hb.block _ (by omega)).trans h.bx, (hb.block _ (by omega)).trans h.bf, (hb.block _ (by omega)).trans h.br, h.below.trans (hb.mono (by omega))⟩
theorem LeastAt.set {w W : World} {x : Nat} {fv : Value} {r : Int} (h : LeastAt w x fv r W) (r' : Int) : LeastAt w x fv r' (W.setCell ⟨w.heap.size + 2, 0, none⟩ (.int .i64 r')) :=
  ⟨(Below.heap_setCell _ _ _ _ (by simp)).trans h.bx, (Below.heap_setCell _ _ _ _ (by simp)).trans h.bf, one_setCell h.br, h.below.setCell (by simp) _⟩
theorem keepsFrom_of_below {B : Nat} {W W' : World} (h : Below W.heap.size W W') : KeepsFrom B W W' :=
  ⟨h.size, fun k _ _ hk _ => (h.block k (Array.getElem?_eq_some_iff.1 hk).1).trans hk⟩
theorem L.find_after (q : Nat → Bool) (p : List Nat) (a : Nat) (rest : List Nat) {l : List Nat} (h : l = p ++ a :: rest) (h1 : ∀ c ∈ p, q c = false) (h2 : q a = true) : l.find? q = some a := by
  rw [h, List.find?_append, List.find?_eq_none.2 (fun c hc => by rw [h1 c hc]; decide), List.find?_cons, h2]
  rfl
theorem heap_put {W : World} {l k : Nat} {o : Obj} (h : k ≠ l) : (W.putObj l o).heap[k]? = W.heap[k]? := World.putObj_heap_other h

theorem results_cell {fn : Func} {p : Tmp} {ty : TypeId} (h : fn.results = #[.cell p ty]) (tmps : Array Value) (P : Program) (w : World) :
    (results fn tmps).run P w = ((asAddr (tmps.getD p undef)).run P w).andThen fun a w₁ => (loadVar ty a).run P w₁ := by
  simp only [results, h]
  simp [Sem.run_bind, Result.andThen]
theorem cellBox_put {W : World} {b l : Nat} {v : Value} {t : TypeId} (h : W.heap[b]? = some (.cells #[v] t (0, 0))) (hl : b ≠ l) (o : Obj) : (W.putObj l o).cell? ⟨b, 0, none⟩ = some v :=
  cell_of_one ((heap_put hl).trans h)

theorem least_results (tmps : Array Value) (w : World) (b : Nat) (v : Int) (hp : tmps.getD 4 undef = .pointer (some ⟨b, 0, none⟩)) (hc : w.cell? ⟨b, 0, none⟩ = some (.int .i64 v)) :
    (results Tryd.f53 tmps).run Tryd.prog w = .ok (.int .i64 v) w := by
  rw [results_cell rfl, hp]
  go_simp

set_option maxHeartbeats 1000000 in
theorem least_in (n x : Nat) (hx : x < 18446744073709551616) (gf : Nat) (lb : Array Value) (eg : ∀ args w, (callFunc gf args).run Tryd.prog w = .ok (.enter gf args) w) (f : Nat → Nat → Bool) (w : World) (ht : DTab w)
    (hfl : ∀ W, Below w.heap.size w W → ∀ c d : Nat, Calls Tryd.prog gf (#[.int .i64 (c : Int), .int .i64 (d : Int)] ++ lb) W fun e w' => e = .returned (.bool (f c d)) ∧ W = w') :
    CallsIn Fence.wide (n + 8) Tryd.prog 53 #[.int .u64 x, .func (.func gf) #[] lb] w fun e w' => e = .returned (.int .i64 (L.leastOf x f)) ∧ Below w.heap.size w w' := by
  refine callsIn_of_wp_marks Tryd.func53 rfl trivial ?_ rfl
  simp only [Tryd.ntmps53, List.size_toArray, List.length_cons, List.length_nil, Nat.reduceAdd, Nat.reduceSub, Array.replicate_succ, Array.replicate_zero, List.push_toArray, List.append_toArray, List.nil_append, List.cons_append]
  gi_wp2_with fail
  refine ⟨trivial, ?_⟩
  refine (callsIn_wide.2 (each_any x _)).mono ?_
  rintro e w' ⟨rfl, rfl⟩
  gi_wp2_with fail
  obtain ⟨W0, hW0⟩ : ∃ W0, ((((w.alloc (.cells #[.int .u64 (x : Int)] 25)).alloc (.cells #[.func (.func gf) #[] lb] 67)).alloc (.cells #[.int .i64 0] 3)).alloc (.cells #[.int .u64 (x : Int)] 25)) = W0 := ⟨_, rfl⟩
  have hsz : W0.heap.size = w.heap.size + 4 := by rw [← hW0]; simp
  have hL0 : LeastAt w x (.func (.func gf) #[] lb) 0 W0 := by
    have n1 := World.alloc_heap_new (w.alloc (.cells #[.int .u64 (x : Int)] 25)) (.cells #[.func (.func gf) #[] lb] 67)
    have n2 := World.alloc_heap_new ((w.alloc (.cells #[.int .u64 (x : Int)] 25)).alloc (.cells #[.func (.func gf) #[] lb] 67)) (.cells #[.int .i64 0] 3)
    simp only [World.size_alloc] at n1 n2
    rw [← hW0]
    refine ⟨?_, ?_, ?_, ?_⟩
    · exact (Below.heap_alloc _ _ _ (by simp; omega)).trans ((Below.heap_alloc _ _ _ (by simp; omega)).trans ((Below.heap_alloc _ _ _ (by simp)).trans (World.alloc_heap_new w _)))
    · exact (Below.heap_alloc _ _ _ (by simp)).trans ((Below.heap_alloc _ _ _ (by simp)).trans n1)
    · exact (Below.heap_alloc _ _ _ (by simp)).trans n2
    · exact ((((Below.refl _ w).alloc (Nat.le_refl _) _).alloc (by simp) _).alloc (by simp; omega) _).alloc (by simp; omega) _
  have hbx : BoxU W0 (w.heap.size + 3) x := by
    rw [← hW0]
    have := World.alloc_heap_new (((w.alloc (.cells #[.int .u64 (x : Int)] 25)).alloc (.cells #[.func (.func gf) #[] lb] 67)).alloc (.cells #[.int .i64 0] 3)) (.cells #[.int .u64 (x : Int)] 25)
    simp only [World.size_alloc] at this
    exact this
  rw [hW0]
  clear hW0
  have hs4 := Nat.le_of_eq hsz.symm
  refine range_outer rfl (by omega) (gf := 73) (lb := #[.pointer (some ⟨w.heap.size + 3, 0, none⟩)]) rfl trivial (enters_of Tryd.func73 (by kernel_rfl) rfl)
    (each1_in (n + 8 - 1) x (w.heap.size + 3) hx) (fun _ => rfl)
    ?hTo (fun h k => ⟨k.1.trans h.1, fun t => k.2 (h.2 t)⟩) ?hKb
    (fun pre W => LeastAt w x (.func (.func gf) #[] lb) 0 W ∧ ∀ c ∈ pre, (bitsOf x).all (f c) = false)
    (fun c pre W => c = .ret ∧ ∃ p a, pre = p ++ [a] ∧ (∀ c ∈ p, (bitsOf x).all (f c) = false) ∧ (bitsOf x).all (f a) = true ∧ LeastAt w x (.func (.func gf) #[] lb) a W)
    ?hIT ?hIb ?hIxb ?h0 ?hstart ?hround ?hdone ?hstop
  case hTo =>
    rintro A B k o ⟨y, rfl⟩ hk ho
    exact (KeepsOthers.setCell A ⟨w.heap.size + 3, 0, none⟩ _).same k o hk ho
  case hKb =>
    intro W l o hl
    exact ⟨heap_put (by omega), fun t => t.same (heap_put (by have := ht.lt; omega))⟩
  case hIT =>
    rintro s A B ⟨h1, h2⟩ ⟨y, rfl⟩
    exact ⟨h1.later (p := w.heap.size + 3) ((Below.refl _ A).setCell (by simp) _) (Nat.le_refl _), h2⟩
  case hIb =>
    rintro s W l o o' hl ⟨h1, h2⟩ hlo ho
    exact ⟨h1.later (p := l) (below_put (Below.refl _ W) (Nat.le_refl _) _) (by omega), h2⟩
  case hIxb =>
    rintro c s W l o o' hl ⟨rfl, p, a, hp, h1, h2, h3⟩ hlo ho
    exact ⟨rfl, p, a, hp, h1, h2, h3.later (p := l) (below_put (Below.refl _ W) (Nat.le_refl _) _) (by omega)⟩
  case h0 =>
    intro r
    exact ⟨hL0.later (p := W0.heap.size) (((Below.refl _ W0).alloc (Nat.le_refl _) _).alloc (by simp) _) (by omega), fun c hc => (by cases hc)⟩
  case hstart =>
    intro r
    have hb : Below W0.heap.size W0 ((W0.alloc (.deferred (some []))).alloc (.loop r)) := ((Below.refl _ W0).alloc (Nat.le_refl _) _).alloc (by simp) _
    exact ⟨(hb.block _ (by omega)).trans hbx, (ht.below hL0.below).below hb⟩
  case hdone =>
    rintro xs W rfl ⟨h1, h2⟩ hD
    have hcr := cell_of_one h1.br
    have hfr := free_of_one h1.br
    have hend : Hid ((Ending.returned (.int .i64 (-1)) = .returned (.int .i64 (L.leastOf x f)) ∧ Below w.heap.size w ((W.setCell ⟨w.heap.size + 2, 0, none⟩ (.int .i64 (-1))).putObj W0.heap.size (.deferred none)))) := by
      refine ⟨ret_int ?_, below_put (h1.below.setCell (by simp) _) (by omega) _⟩
      unfold L.leastOf
      rw [List.find?_eq_none.2 (fun c hc => by rw [h2 c hc]; decide)]
      rfl
    have hcw := cellBox_put (h1.set (-1)).br (show w.heap.size + 2 ≠ W0.heap.size by omega) (.deferred none)
    have hD2 : (W.setCell ⟨w.heap.size + 2, 0, none⟩ (.int .i64 (-1))).heap[W0.heap.size]? = some (.deferred (some [])) := (Below.heap_setCell _ _ _ _ (by simp; omega)).trans hD
    clear h2 hfl hbx hL0
    gi_wp2_with fail
    refine ⟨by simp, .inl ⟨_, _, rfl, run_takeDeferred hD2, ?_⟩⟩
    exact ⟨_, least_results _ _ _ _ rfl hcw, hend.out⟩
  case hstop =>
    rintro c pre W ⟨rest, hrest⟩ ⟨rfl, p, a, rfl, h1, h2, h3⟩ hD
    have hcr := cell_of_one h3.br
    have hend : Hid ((Ending.returned (.int .i64 (a : Int)) = .returned (.int .i64 (L.leastOf x f)) ∧ Below w.heap.size w (W.putObj W0.heap.size (.deferred none)))) := by
      refine ⟨ret_int ?_, below_put h3.below (by omega) _⟩
      unfold L.leastOf
      rw [L.find_after (fun c => (bitsOf x).all fun d => f c d) p a rest (by rw [← hrest]; simp) h1 h2]
      rfl
    have hcw := cellBox_put h3.br (show w.heap.size + 2 ≠ W0.heap.size by omega) (.deferred none)
    clear hfl hbx hL0 h1 h2 hrest
    gi_wp2_with fail
    refine ⟨by simp, .inl ⟨_, _, rfl, run_takeDeferred hD, ?_⟩⟩
    exact ⟨_, least_results _ _ _ _ rfl hcw, hend.out⟩
  case hround =>
    rintro l pre a W hl ⟨r, hlr⟩ ⟨hL, hpre⟩ ⟨rest, hrest⟩
    have hlW := (Array.getElem?_eq_some_iff.1 hlr).1
    gi_wp2_with fail
    refine ⟨keepsFrom_of_below ((Below.refl _ W).alloc (Nat.le_refl _) _), ?_⟩
    intro r'
    obtain ⟨W2, hW2⟩ : ∃ W2, (W.alloc (.cells #[.int .i64 (a : Int)] 3)).putObj l (.loop r') = W2 := ⟨_, rfl⟩
    have hB2 : Below l W W2 := by rw [← hW2]; exact below_put ((Below.refl _ W).alloc (Nat.le_of_lt hlW) _) (Nat.le_refl _) _
    have hsz2 : W2.heap.size = W.heap.size + 1 := by rw [← hW2, size_put]; simp
    have hl2 : W2.heap[l]? = some (.loop r') := by rw [← hW2]; exact World.putObj_heap_same (by simp; omega)
    have ha2 : W2.heap[W.heap.size]? = some (.cells #[.int .i64 (a : Int)] 3 (0, 0)) := by rw [← hW2]; exact (heap_put (by omega)).trans (World.alloc_heap_new W _)
    rw [hW2]
    clear hW2
    obtain ⟨p, hp⟩ : ∃ p, W.heap.size = p := ⟨_, rfl⟩
    rw [hp] at hsz2 ha2 hlW ⊢
    have hL2 := hL.later hB2 (by omega)
    have hk2 : boxKept (w.heap.size + 3) W W2 := ⟨hB2.block _ (by omega), fun t => t.same (hB2.block _ (by have := ht.lt; omega))⟩
    clear hL hlr hB2
    have hcx := cell_of_one (hL2.later ((Below.refl _ W2).alloc (Nat.le_refl _) (.cells #[.bool true] 4)) (by omega)).bx
    clear hbx hL0
    gi_wp2_with fail
    refine ⟨trivial, ?_⟩
    refine ((callsIn_wide.2 (each_any x _)).inRound l).mono ?_
    rintro e w' ⟨rfl, rfl⟩
    gi_wp2_with fail
    obtain ⟨W3, hW3⟩ : ∃ W3, (W2.alloc (.cells #[.bool true] 4)).alloc (.cells #[.int .u64 (x : Int)] 25) = W3 := ⟨_, rfl⟩
    have hB3 : Below (p + 1) W2 W3 := by rw [← hW3]; exact ((Below.refl _ W2).alloc (by omega) _).alloc (by simp; omega) _
    have hsz3 : W3.heap.size = p + 3 := by rw [← hW3]; simp; omega
    have hl3 : W3.heap[l]? = some (.loop r') := (hB3.block l (by omega)).trans hl2
    have hall3 : W3.heap[p + 1]? = some (.cells #[.bool true] 4 (0, 0)) := by
      rw [← hW3, ← hsz2]
      exact (Below.heap_alloc _ _ _ (by simp)).trans (World.alloc_heap_new W2 _)
    have hbx3 : BoxU W3 (p + 2) x := by
      rw [← hW3]
      have := World.alloc_heap_new (W2.alloc (.cells #[.bool true] 4)) (.cells #[.int .u64 (x : Int)] 25)
      rw [World.size_alloc, hsz2] at this
      exact this
    rw [hW3]
    clear hW3 hcx
    have ht3 : DTab W3 := (ht.below hL2.below).same (hB3.block _ (by have := ht.lt; omega))
    refine range_inner rfl hl3 (by omega) (gf := 73) (lb := #[.pointer (some ⟨p + 2, 0, none⟩)]) rfl trivial (enters_of Tryd.func73 (by kernel_rfl) rfl)
      (each1_in (n + 8 - 1 - 1 - 1) x (p + 2) hx) (fun _ => rfl)
      ?iTo (fun h k => ⟨k.1.trans h.1, fun t => k.2 (h.2 t)⟩) ?iKb
      (fun qs W' => Below (p + 1) W2 W' ∧ W'.heap[p + 1]? = some (.cells #[.bool (qs.all (f a))] 4 (0, 0)))
      (fun _ _ _ => False)
      ?iIT ?iIb (fun _ _ _ _ _ _ _ h => h.elim) ?i0 ?istart ?iround ?idone (fun _ _ _ _ h => h.elim)
    case iTo =>
      rintro A B k o ⟨y, rfl⟩ hk ho
      exact (KeepsOthers.setCell A ⟨p + 2, 0, none⟩ _).same k o hk ho
    case iKb =>
      intro W l o hl
      exact ⟨heap_put (by omega), fun t => t.same (heap_put (by have := ht.lt; omega))⟩
    case iIT =>
      rintro s A B ⟨h1, h2⟩ ⟨y, rfl⟩
      exact ⟨h1.setCell (by simp) _, (Below.heap_setCell _ _ _ _ (by simp)).trans h2⟩
    case iIb =>
      rintro s W l o o' hl ⟨h1, h2⟩ hlo ho
      exact ⟨below_put h1 (by omega) _, (heap_put (by omega)).trans h2⟩
    case i0 =>
      intro r
      exact ⟨hB3.alloc (by omega) _, (Below.heap_alloc _ _ _ (by omega)).trans hall3⟩
    case istart =>
      intro r
      exact ⟨(Below.heap_alloc _ _ _ (by omega)).trans hbx3, ht3.same (Below.heap_alloc _ _ _ (by have := ht.lt; omega))⟩
    case iround =>
      rintro l2 qs b W' hl2' ⟨s, hls⟩ ⟨hBq, hq⟩ ⟨rest2, hrest2⟩
      gi_wp2_with fail
      refine ⟨KeepsFrom.refl _ _, ?_⟩
      intro s'
      obtain ⟨W4, hW4⟩ : ∃ W4, W'.putObj l2 (.loop s') = W4 := ⟨_, rfl⟩
      have hBq4 : Below (p + 1) W2 W4 := by rw [← hW4]; exact below_put hBq (by omega) _
      have hq4 : W4.heap[p + 1]? = some (.cells #[.bool (qs.all (f a))] 4 (0, 0)) := by rw [← hW4]; exact (heap_put (by omega)).trans hq
      have hk4 : boxKept (p + 2) W' W4 := by
        rw [← hW4]
        exact ⟨heap_put (by omega), fun t => t.same (heap_put (by have := ht.lt; omega))⟩
      rw [hW4]
      clear hW4 hBq hq hls hrest2
      have hc := cell_of_one hq4
      have hf := free_of_one hq4
      have hca := cell_of_one ((hBq4.block p (by omega)).trans ha2)
      have hcf := cell_of_one (hL2.later hBq4 (by omega)).bf
      have hcall := hfl W4 ((hL2.later hBq4 (by omega)).below) a b
      have hset := one_setCell (u := .bool ((qs ++ [b]).all (f a))) hq4
      have hend : ∀ v, v = (qs ++ [b]).all (f a) → roundOut W3.heap.size (boxKept (p + 2)) (fun qs W' => Below (p + 1) W2 W' ∧ W'.heap[p + 1]? = some (.cells #[.bool (qs.all (f a))] 4 (0, 0))) (fun _ _ _ => False) (qs ++ [b]) W' W4 .normal { tmps := #[], defers := [] } (W4.setCell ⟨p + 1, 0, none⟩ (.bool v)) := by
        rintro v rfl
        exact ⟨(KeepsOthers.setCell _ _ _).from _, boxKept_trans hk4 ⟨Below.heap_setCell _ _ _ _ (by simp), fun t => t.same (Below.heap_setCell _ _ _ _ (by have := ht.lt; simp))⟩, hBq4.setCell (by simp) _, hset⟩
      have HE := Lib.hid hend
      clear hend hset
      cases hqa : qs.all (f a) with
      | false =>
        have hv : Hid (false = (qs ++ [b]).all (f a)) := by unfold Hid; rw [List.all_append, hqa]; rfl
        rw [hqa] at hc
        clear hqa hcall hfl hpre hrest
        gi_wp2_with fail
        refine ⟨fun f h => (by cases h), ?_⟩
        gi_wp2_with fail
        exact HE.out _ hv.out
      | true =>
        have hv : Hid (f a b = (qs ++ [b]).all (f a)) := by unfold Hid; rw [List.all_append, hqa]; simp
        rw [hqa] at hc
        clear hqa hfl hpre hrest
        generalize f a b = fab at *
        have HC := Lib.hid hcall
        clear hcall
        gi_wp2_with fail
        refine ⟨trivial, ?_⟩
        refine ((callsIn_wide.2 HC.out).inRound l2).mono ?_
        rintro e w' ⟨rfl, rfl⟩
        gi_wp2_with fail
        exact HE.out _ hv.out
    case idone =>
      rintro xs W' rfl ⟨h1, h2⟩
      have hc := cell_of_one h2
      have hca := cell_of_one ((h1.block p (by omega)).trans ha2)
      have hL4 := hL2.later h1 (by omega)
      have hcr := cell_of_one hL4.br
      have hfr := free_of_one hL4.br
      cases hall : (bitsOf x).all (f a) with
      | false =>
        have hend : roundOut W0.heap.size (boxKept (w.heap.size + 3)) (fun pre W => LeastAt w x (.func (.func gf) #[] lb) 0 W ∧ ∀ c ∈ pre, (bitsOf x).all (f c) = false) (fun c pre W => c = .ret ∧ ∃ p a, pre = p ++ [a] ∧ (∀ c ∈ p, (bitsOf x).all (f c) = false) ∧ (bitsOf x).all (f a) = true ∧ LeastAt w x (.func (.func gf) #[] lb) a W) (pre ++ [a]) W W2 .normal { tmps := #[], defers := [] } W' := by
          refine ⟨keepsFrom_of_below (h1.mono (by omega)), boxKept_trans hk2 ⟨h1.block _ (by omega), fun t => t.same (h1.block _ (by have := ht.lt; omega))⟩, hL4, fun c hc => ?_⟩
          rcases List.mem_append.1 hc with hc | hc
          · exact hpre c hc
          · obtain rfl := List.mem_singleton.1 hc; exact hall
        have HE := Lib.hid hend
        rw [hall] at hc
        clear hend hall hpre hfl hrest
        gi_wp2_with fail
        exact HE.out
      | true =>
        have hend : roundOut W0.heap.size (boxKept (w.heap.size + 3)) (fun pre W => LeastAt w x (.func (.func gf) #[] lb) 0 W ∧ ∀ c ∈ pre, (bitsOf x).all (f c) = false) (fun c pre W => c = .ret ∧ ∃ p a, pre = p ++ [a] ∧ (∀ c ∈ p, (bitsOf x).all (f c) = false) ∧ (bitsOf x).all (f a) = true ∧ LeastAt w x (.func (.func gf) #[] lb) a W) (pre ++ [a]) W W2 .ret { tmps := #[], defers := [] } (W'.setCell ⟨w.heap.size + 2, 0, none⟩ (.int .i64 a)) :=
          ⟨(keepsFrom_of_below (h1.mono (by omega))).trans ((KeepsOthers.setCell _ _ _).from _), rfl, pre, a, rfl, hpre, hall, hL4.set a⟩
        have HE := Lib.hid hend
        rw [hall] at hc
        clear hend hall hpre hfl hrest
        gi_wp2_with fail
        exact HE.out
end Go.Proofs.YtnfhhhcbgipmcaaDoor
