/- What of an operation is noticed: plain; what op.Seen, the reference's Seen, and slices.Clone at texts return; operations of a call's own. -/
import Derived.Test.YtljpfocmnppjgaaDoorOp5
namespace Go.Proofs.YtljpfocmnppjgaaDoor
open Go Go.RowKit

namespace L
def keeps (p : Int → Bool) (l : List (List UInt8)) : List (List UInt8) := (List.range l.length).map fun (k : Nat) => if p (k : Int) then l.getD k [] else []
theorem keeps_length (p : Int → Bool) (l : List (List UInt8)) : (keeps p l).length = l.length := by simp [keeps]
theorem keeps_at {p : Int → Bool} {l : List (List UInt8)} {k : Nat} (h : k < (keeps p l).length) : (keeps p l)[k] = if p (k : Int) then l[k]'(by rw [keeps_length] at h; exact h) else [] := by
  have hk : k < l.length := by rw [keeps_length] at h; exact h
  simp [keeps, hk]
def seen (p : Int → Bool) (o : Opr) : Bool := decide (o.kind = 16) || p o.level
def trim (p : Int → Bool) (o : Opr) : Opr := if o.kind = 16 then (if p o.level then { o with keep := keeps p o.keep } else { o with keep := keeps p o.keep, level := 0, ses := 0, n := 0 }) else o
def pick (p : Int → Bool) (o : Opr) : List Opr := if seen p o then [trim p o] else []
theorem keeps_congr {p q : Int → Bool} (h : ∀ x, p x = q x) (l : List (List UInt8)) : keeps p l = keeps q l := by
  have : p = q := funext h
  rw [this]
theorem trim_kept {p : Int → Bool} {o : Opr} (h : o.kind ≠ 16) : trim p o = o := by unfold trim; rw [if_neg h]
theorem trim_keep {p : Int → Bool} {o : Opr} (h : o.kind = 16) : (trim p o).keep = keeps p o.keep := by
  unfold trim
  rw [if_pos h]
  split <;> rfl
end L

theorem infoStr : (Tryd.prog.info? 9).map (fun i => (i.zero, i.size, i.bytes)) = some (some (.string (str [])), 1, 16) := by kernel_rfl
theorem infoOp : (Tryd.prog.info? 34).map (fun i => (i.zero, i.size, i.bytes)) = some (some (.agg #[.int .i64 0, .int .i64 0, .int .i64 0, .int .i64 0, .string (str []), .string (str []), .string (str []), .int .i64 0, .int .i64 0, .int .i64 0, .slice none 0 0]), 11, 128) := by kernel_rfl

set_option maxHeartbeats 400000 in
theorem strClone_any (v : Value) (l : List (List UInt8)) (w : World) (h : Ks w v l) (hl : l.length ≤ 100000) :
    Calls Tryd.prog 44 #[v] w fun e w' => ∃ v', e = .returned v' ∧ w'.ownsRow w.heap.size 9 1 v' l.length (strCells l) ∧ Below w.heap.size w w' := by
  have q : ∀ (w : World) (a : Option Addr) (n c n' c' : Nat), (binOp .eql 22 (.slice a n c) (.slice none n' c')).run Tryd.prog w = .ok (.bool a.isNone) w := fun w a n c n' c' => Lib.run_eql_slice_nil w _ _ a n c n' c' Tryd.underlying22
  obtain ⟨-, ao, cap, rfl, -, -, hn, -⟩ := id h
  cases ao with
  | none =>
    obtain rfl := hn rfl
    obtain rfl : l = [] := by
      obtain ⟨_, ao, cap, e, hc, -⟩ := h
      obtain ⟨-, -, rfl⟩ := Value.slice.inj e
      exact List.eq_nil_of_length_eq_zero (by omega)
    go_enter Tryd.func44, Tryd.ntmps44
    go_wp2_with fail
    go_ret
    exact ⟨_, rfl, World.ownsRow_nil _ _ _ _, Below.refl _ _⟩
  | some a =>
    go_enter Tryd.func44, Tryd.ntmps44
    have hb0 : Below w.heap.size w (w.alloc (.cells #[] 9)) := (Below.refl _ _).alloc (Nat.le_refl _) _
    have hown0 := Lib.hid (World.ownsRow_made (base := w.heap.size) (e := 9) (size := 1) w #[] 0 (Nat.le_refl _) (Nat.zero_le _) rfl)
    go_wp2_with (at_builtin; go_must (refine wpList_append_sl rfl _ _ 22 rfl w.heap.size 9 _ 1 16 Tryd.underlying22 infoStr rfl (by decide) _ _ _ rfl hown0.out _ l.length (strCells l) rfl (h.below hb0) (str_oneCell l) (by unfold maxLen; omega) (by omega) hb0.size ?_))
    intro v2 w2 hown2 hgrow _
    have hbel2 := hb0.grown hgrow hb0.size (ownBlock_ge hown0.out)
    try rw [Nat.zero_add, List.nil_append] at hown2
    have HO2 := Lib.hid hown2
    clear hown2 hgrow
    go_wp2_with fail
    go_ret
    exact ⟨_, rfl, HO2.out, hbel2⟩

/-- Texts that lay in the world w0, or that the call made. -/
def Kx (w0 w : World) (base : Nat) (u : Value) (l : List (List UInt8)) : Prop := Ks w0 u l ∨ w.ownsRow base 9 1 u l.length (strCells l)
theorem Kx.ks {w0 w : World} {base : Nat} {u : Value} {l : List (List UInt8)} (h : Kx w0 w base u l) (hb : Below w0.heap.size w0 w) : Ks w u l := by
  rcases h with h | h
  · exact h.below hb
  · exact Ks.of_owns h
theorem Kx.below {w0 w w' : World} {base : Nat} {u : Value} {l : List (List UInt8)} (h : Kx w0 w base u l) (hb : Below w.heap.size w w') : Kx w0 w' base u l := h.imp id fun h => ownsRow.below h hb
theorem ownsRow.beside {w w' : World} {base t sz n : Nat} {u : Value} {cs : List Value} (h : w.ownsRow base t sz u n cs) {base2 t2 sz2 n2 : Nat} {v : Value} {ds : List Value} (h2 : w.ownsRow base2 t2 sz2 v n2 ds) (ht : t ≠ t2) (hg : w.grownBy w' v.ownBlock) : w'.ownsRow base t sz u n cs := by
  refine ⟨h.1, ?_⟩
  rcases h.2 with h1 | ⟨g, cap, cur, rfl, hb, hh, r⟩
  · exact .inl h1
  · refine .inr ⟨g, cap, cur, rfl, hb, ?_, r⟩
    rw [hg.block g (Array.getElem?_eq_some_iff.1 hh).1 (fun e => ?_)]
    · exact hh
    · rcases h2.2 with ⟨rfl, -⟩ | ⟨g2, cap2, cur2, rfl, -, hh2, -⟩
      · simp [Value.ownBlock] at e
      · have : g = g2 := by simpa [Value.ownBlock] using e
        subst this
        rw [hh] at hh2
        simp only [Option.some.injEq, Obj.cells.injEq] at hh2
        exact ht hh2.2.1
theorem Kx.shape {w0 w : World} {base : Nat} {u : Value} {l : List (List UInt8)} (h : Kx w0 w base u l) : ∃ a n c, u = .slice a n c := by
  rcases h with h | h
  · obtain ⟨a, c, e, -⟩ := h.shape
    exact ⟨a, _, c, e⟩
  · rcases h.2 with ⟨e, -⟩ | ⟨g, c, cur, e, -⟩
    · exact ⟨_, _, _, e⟩
    · exact ⟨_, _, _, e⟩
/-- Operations of the call's own; what they keep lay in the world w0, or is the call's own too. -/
structure Ob (w0 w : World) (base : Nat) (v : Value) (l : List Opr) (us : List Value) : Prop where
  len : us.length = l.length
  own : w.ownsRow base 34 11 v l.length (opCells (List.zipWith Op11.put l us))
  each : ∀ i (h : i < us.length) (h2 : i < l.length), Kx w0 w base us[i] l[i].keep
theorem Ob.nil (w0 w : World) (base : Nat) : Ob w0 w base (.slice none 0 0) [] [] := ⟨rfl, World.ownsRow_nil _ _ _ _, fun i h => by simp at h⟩
theorem Ob.below {w0 w w' : World} {base : Nat} {v : Value} {l : List Opr} {us : List Value} (h : Ob w0 w base v l us) (hb : Below w.heap.size w w') : Ob w0 w' base v l us := ⟨h.len, ownsRow.below h.own hb, fun i a b => (h.each i a b).below hb⟩
theorem Ob.os {w0 w : World} {base : Nat} {v : Value} {l : List Opr} {us : List Value} (h : Ob w0 w base v l us) (hb : Below w0.heap.size w0 w) : Os w v l := ⟨us, h.len, Sl.of_owns h.own, fun i a b => (h.each i a b).ks hb⟩
theorem Ob.base {w0 w : World} {base base' : Nat} {v : Value} {l : List Opr} {us : List Value} (h : Ob w0 w base v l us) (hb : base' ≤ base) : Ob w0 w base' v l us := ⟨h.len, ownsRow.base h.own hb, fun i a b => (h.each i a b).imp id fun h => ownsRow.base h hb⟩
theorem Ob.push {w0 w w' : World} {base : Nat} {v v' u : Value} {l : List Opr} {us : List Value} {o : Opr} (h : Ob w0 w base v l us) (hu : Kx w0 w base u o.keep) (hg : w.grownBy w' v.ownBlock) (ho : w'.ownsRow base 34 11 v' (l.length + 1) (opCells (List.zipWith Op11.put l us) ++ opCells [o.put u])) : Ob w0 w' base v' (l ++ [o]) (us ++ [u]) := by
  refine ⟨by simp [h.len], ?_, fun i a b => ?_⟩
  · rw [List.zipWith_append (by exact h.len.symm), opCells_append, List.length_append]
    exact ho
  · have key : ∀ (u : Value) (k : List (List UInt8)), Kx w0 w base u k → Kx w0 w' base u k := fun u k hk => hk.imp id fun hk => ownsRow.beside hk h.own (by decide) hg
    by_cases hi : i < us.length
    · have hi2 : i < l.length := by rw [← h.len]; exact hi
      rw [List.getElem_append_left hi, List.getElem_append_left hi2]
      exact key _ _ (h.each i hi hi2)
    · have hil : i = us.length := by rw [List.length_append] at a; simp at a; omega
      have e1 : (us ++ [u])[i] = u := by
        rw [List.getElem_append_right (by omega)]
        simp
      have e2 : (l ++ [o])[i] = o := by
        rw [List.getElem_append_right (by rw [← h.len]; omega)]
        simp
      rw [e1, e2]
      exact key _ _ hu

set_option maxHeartbeats 400000 in
theorem seen_any (vu : Value) (us : List Nat) (o : Opr) (u : Value) (level : Int) (w : World) (hu : Us w vu us) (hU : U64s us) :
    Calls Tryd.prog 30 #[vu, opv (o.put u), .int .i64 level] w fun e w' => e = .returned (.bool (L.seen (fun a => L.leq us a level) o)) ∧ Below w.heap.size w w' := by
  have HQ := Lib.hid (fun W (hW : Below w.heap.size w W) => leq_any vu us o.level level W (hu.below hW) hU)
  obtain ⟨o0, o1, o2, o3, o4, o5, o6, o7, o8, o9, k⟩ := o
  have hb : Below w.heap.size w (w.alloc (.cells #[.int .i64 o0, .int .i64 o1, .int .i64 o2, .int .i64 o3, .string (str o4), .string (str o5), .string (str o6), .int .i64 o7, .int .i64 o8, .int .i64 o9, u] 34)) := (Below.refl _ _).alloc (Nat.le_refl _) _
  have HBX := Lib.hid hb
  clear hb hu
  simp only [Op11.put, L.seen] at HQ ⊢
  generalize L.leq us o1 level = c at *
  by_cases h15 : o0 = 16
  · have d0 : (o0 == 16) = true := by simp [h15]
    have d0' : decide (o0 = 16) = true := by simp [h15]
    rw [d0', Bool.true_or]
    clear d0' HQ
    subst h15
    go_enter Tryd.func30, Tryd.ntmps30
    go_wp2_with fail
    go_ret
    exact ⟨rfl, HBX.out⟩
  · have d0 : (o0 == 16) = false := by simp [h15]
    have d0' : decide (o0 = 16) = false := by simp [h15]
    rw [d0', Bool.false_or]
    clear h15 d0'
    go_enter Tryd.func30, Tryd.ntmps30
    go_wp2_with fail
    refine (HQ.out _ HBX.out).mono ?_
    rintro e w' ⟨rfl, rfl⟩
    go_wp2_with fail
    go_ret
    exact ⟨rfl, HBX.out⟩

set_option maxHeartbeats 400000 in
theorem refSeen_any (vu : Value) (us : List Nat) (o : Opr) (u : Value) (level : Int) (w : World) (hu : Us w vu us) (hU : U64s us) :
    Calls Tryd.prog 34 #[vu, opv (o.put u), .int .i64 level] w fun e w' => e = .returned (.bool (L.seen (fun a => L.leq us a level) o)) ∧ Below w.heap.size w w' := by
  have HQ := Lib.hid (fun W (hW : Below w.heap.size w W) => refLeq_any vu us o.level level W (hu.below hW) hU)
  obtain ⟨o0, o1, o2, o3, o4, o5, o6, o7, o8, o9, k⟩ := o
  have hb : Below w.heap.size w (w.alloc (.cells #[.int .i64 o0, .int .i64 o1, .int .i64 o2, .int .i64 o3, .string (str o4), .string (str o5), .string (str o6), .int .i64 o7, .int .i64 o8, .int .i64 o9, u] 34)) := (Below.refl _ _).alloc (Nat.le_refl _) _
  have HBX := Lib.hid hb
  clear hb hu
  simp only [Op11.put, L.seen] at HQ ⊢
  generalize L.leq us o1 level = c at *
  by_cases h15 : o0 = 16
  · have d0 : (o0 == 16) = true := by simp [h15]
    have d0' : decide (o0 = 16) = true := by simp [h15]
    rw [d0', Bool.true_or]
    clear d0' HQ
    subst h15
    go_enter Tryd.func34, Tryd.ntmps34
    go_wp2_with fail
    go_ret
    exact ⟨rfl, HBX.out⟩
  · have d0 : (o0 == 16) = false := by simp [h15]
    have d0' : decide (o0 = 16) = false := by simp [h15]
    rw [d0', Bool.false_or]
    clear h15 d0'
    go_enter Tryd.func34, Tryd.ntmps34
    go_wp2_with fail
    refine (HQ.out _ HBX.out).mono ?_
    rintro e w' ⟨rfl, rfl⟩
    go_wp2_with fail
    go_ret
    exact ⟨rfl, HBX.out⟩
end Go.Proofs.YtljpfocmnppjgaaDoor
