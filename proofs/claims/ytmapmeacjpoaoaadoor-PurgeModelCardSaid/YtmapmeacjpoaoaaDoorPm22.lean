/- Two models in memory, the results that were told, and what stays as it is. A configuration is right, or not, whatever the world: Check of the reference tells the same each time. What the model's New returns: a model of empty labels. -/
import Derived.Test.YtmapmeacjpoaoaaDoorPm21
import Derived.Deep.OwnRows
namespace Go.Proofs.YtmapmeacjpoaoaaDoor
open Go Go.RowKit

theorem infoRes : (Tryd.prog.info? 45).map (fun i => (i.zero, i.size, i.bytes)) = some (some (.agg #[.int .i64 0, .int .i64 0, .slice none 0 0, .int .i64 0, .int .i64 0, .int .i64 0, .int .i64 0, .slice none 0 0]), 8, 96) := by kernel_rfl
/-- A result's cells. -/
def rs1 (p : Res × Value × Value) : List Value := [.int .i64 p.1.e, .int .i64 p.1.n, p.2.1, .int .i64 0, .int .i64 0, .int .i64 0, .int .i64 0, p.2.2]
def rsCells (tl : List Res) (ts : List (Value × Value)) : List Value := (tl.zip ts).flatMap rs1
theorem rs_append {tl : List Res} {ts : List (Value × Value)} (h : ts.length = tl.length) (r : Res) (t : Value × Value) : rsCells (tl ++ [r]) (ts ++ [t]) = rsCells tl ts ++ rs1 (r, t) := by
  unfold rsCells
  rw [List.zip_append h.symm, List.flatMap_append]
  simp
theorem Fz.of_below {w : World} {P : World → Prop} (h : ∀ W, Below w.heap.size w W → P W) : Fz (fun _ => False) w P := fun W hW => h W ⟨hW.os, hW.tape, hW.output, hW.size, fun k hk => hW.block k hk (fun h => h)⟩
/-- A model, while blocks F are written that are none of its own. -/
theorem Mem.exF {G G' F : Nat → Prop} {w w' : World} {B n : Nat} {vn vu vq vg : Value} {X : Mv} {m : St} (h : Mem G w B n vn vu vq vg X m) (hx : Ex F w w') (hd : ∀ k, X.foot B k → ¬ F k) (hF : ∀ k, k < w.heap.size → F k → G k) (hG : ∀ k, k < w.heap.size → G' k → G k) (hf : ∀ k, X.foot B k → G' k) (hl : ∀ k, G' k → k < w'.heap.size) : Mem G' w' B n vn vu vq vg X m := by
  refine ⟨⟨(hx.block B h.b.lt (hd B (by unfold Mv.foot; simp))).trans h.b.hd, own_ex h.b.oL ?_ hx, own_ex h.b.oA ?_ hx, own_ex h.b.oH ?_ hx, own_ex h.b.oD ?_ hx, own_ex h.b.oP ?_ hx, h.b.lp, h.b.nL, h.b.nA, h.b.nH, h.b.nD⟩, h.f.wide (hx.mono hF) hG, hf, h.d, hl⟩
  · intro k hk; simp [Value.ownBlock] at hk; exact hd k (by unfold Mv.foot; simp [hk])
  · intro k hk; simp [Value.ownBlock] at hk; exact hd k (by unfold Mv.foot; simp [hk])
  · intro k hk; simp [Value.ownBlock] at hk; exact hd k (by unfold Mv.foot; simp [hk])
  · intro k hk; simp [Value.ownBlock] at hk; exact hd k (by unfold Mv.foot; simp [hk])
  · intro k hk; exact hd k (by unfold Mv.foot; simp [hk])
/-- The blocks that are written: of two models, and of what was told. -/
def Gp (Ba Bb : Nat) (Xa Xb : Mv) (vt : Value) (k : Nat) : Prop := (Xa.foot Ba k ∨ Xb.foot Bb k) ∨ vt.ownBlock = some k
theorem Gp_swap (Ba Bb : Nat) (Xa Xb : Mv) (vt : Value) : Gp Ba Bb Xa Xb vt = Gp Bb Ba Xb Xa vt := by
  funext k
  exact propext ⟨fun h => h.imp Or.symm id, fun h => h.imp Or.symm id⟩
structure Pm (P : World → Prop) (W : World) (base n : Nat) (vn vu vq vg : Value) (Ba Bb : Nat) (Xa Xb : Mv) (ma mb : St) (vt : Value) (ts : List (Value × Value)) (tl : List Res) : Prop where
  a : Mem (Gp Ba Bb Xa Xb vt) W Ba n vn vu vq vg Xa ma
  b : Mem (Gp Ba Bb Xa Xb vt) W Bb n vn vu vq vg Xb mb
  own : W.ownsRow base 45 8 vt tl.length (rsCells tl ts)
  len : ts.length = tl.length
  rd : Fz (Gp Ba Bb Xa Xb vt) W (fun W => ∀ i (h : i < ts.length) (h2 : i < tl.length), Rs W ts[i].1 tl[i].rows ∧ Rv W ts[i].2 tl[i].recs)
  fz : Fz (Gp Ba Bb Xa Xb vt) W P
  sep : ∀ k, Xa.foot Ba k → ¬ Xb.foot Bb k
  sta : ∀ k, Xa.foot Ba k → vt.ownBlock ≠ some k
  stb : ∀ k, Xb.foot Bb k → vt.ownBlock ≠ some k
  low : ∀ k, Gp Ba Bb Xa Xb vt k → base ≤ k
section
variable {P : World → Prop} {W W' : World} {base n : Nat} {vn vu vq vg : Value} {Ba Bb : Nat} {Xa Xb : Mv} {ma mb : St} {vt : Value} {ts : List (Value × Value)} {tl : List Res}
theorem Pm.below (h : Pm P W base n vn vu vq vg Ba Bb Xa Xb ma mb vt ts tl) (hb : Below W.heap.size W W') : Pm P W' base n vn vu vq vg Ba Bb Xa Xb ma mb vt ts tl :=
  ⟨h.a.below hb, h.b.below hb, ownsRow.below h.own hb, h.len, h.rd.below hb, h.fz.below hb, h.sep, h.sta, h.stb, h.low⟩
theorem Pm.swap (h : Pm P W base n vn vu vq vg Ba Bb Xa Xb ma mb vt ts tl) : Pm P W base n vn vu vq vg Bb Ba Xb Xa mb ma vt ts tl := by
  have e := Gp_swap Ba Bb Xa Xb vt
  exact ⟨e ▸ h.b, e ▸ h.a, h.own, h.len, e ▸ h.rd, e ▸ h.fz, fun k hk h2 => h.sep k h2 hk, h.stb, h.sta, fun k hk => h.low k (by rw [e]; exact hk)⟩
/-- An operation of the first model. -/
theorem Pm.step (h : Pm P W base n vn vu vq vg Ba Bb Xa Xb ma mb vt ts tl) (hB : base ≤ W.heap.size) {Xa' : Mv} {ma' : St} (hl : Left (Gp Ba Bb Xa Xb vt) W W' Ba n vn vu vq vg Xa Xa' ma') : Pm P W' base n vn vu vq vg Ba Bb Xa' Xb ma' mb vt ts tl := by
  have hlt : ∀ k, Gp Ba Bb Xa Xb vt k → k < W.heap.size := h.a.lt
  have hs := hl.ex.size
  have hG : ∀ k, k < W.heap.size → Gp Ba Bb Xa' Xb vt k → Gp Ba Bb Xa Xb vt k := fun k hk hg => by
    rcases hg with (hg | hg) | hg
    · rcases hl.foot k hg with h1 | h1
      · exact .inl (.inl h1)
      · omega
    · exact .inl (.inr hg)
    · exact .inr hg
  have hl2 : ∀ k, Gp Ba Bb Xa' Xb vt k → k < W'.heap.size := fun k hg => by
    rcases hg with (hg | hg) | hg
    · exact hl.mem.lt k (.inr hg)
    · have := hlt k (.inl (.inr hg)); omega
    · have := hlt k (.inr hg); omega
  have hxG : Ex (Gp Ba Bb Xa Xb vt) W W' := hl.ex.mono fun k _ hk => .inl (.inl hk)
  refine ⟨hl.mem.narrow (fun k hg => ?_) (fun k hk => .inl (.inl hk)), h.b.exF hl.ex (fun k hk h2 => h.sep k h2 hk) (fun k _ hk => .inl (.inl hk)) hG (fun k hk => .inl (.inr hk)) hl2, own_ex h.own (fun k hk h2 => h.sta k h2 hk) hl.ex, h.len, h.rd.wide hxG hG, h.fz.wide hxG hG, fun k hk h2 => ?_, fun k hk h2 => ?_, h.stb, fun k hk => ?_⟩
  · rcases hg with (hg | hg) | hg
    · exact .inr hg
    · exact .inl (.inl (.inr hg))
    · exact .inl (.inr hg)
  · rcases hl.foot k hk with h1 | h1
    · exact h.sep k h1 h2
    · have := hlt k (.inl (.inr h2)); omega
  · rcases hl.foot k hk with h1 | h1
    · exact h.sta k h1 h2
    · have := hlt k (.inr h2); omega
  · rcases hk with (hk | hk) | hk
    · rcases hl.foot k hk with h1 | h1
      · exact h.low k (.inl (.inl h1))
      · omega
    · exact h.low k (.inl (.inr hk))
    · exact h.low k (.inr hk)
/-- What is told by an operation of the first model stays. -/
theorem Pm.told {Xa' : Mv} {Q : World → Prop} (h : Fz (fun k => Gp Ba Bb Xa Xb vt k ∨ Xa'.foot Ba k) W Q) : Fz (Gp Ba Bb Xa' Xb vt) W Q := fun w hw => h w (hw.mono fun k _ hg => by
  rcases hg with (hg | hg) | hg
  · exact .inr hg
  · exact .inl (.inl (.inr hg))
  · exact .inl (.inr hg))
/-- A result more is told. -/
theorem Pm.push (h : Pm P W base n vn vu vq vg Ba Bb Xa Xb ma mb vt ts tl) (hB : base ≤ W.heap.size) {vt' : Value} {r : Res} {vr vc : Value} (hg : W.grownBy W' vt.ownBlock) (ho : W'.ownsRow base 45 8 vt' (tl.length + 1) (rsCells tl ts ++ rs1 (r, vr, vc)))
    (hs : vt'.ownBlock = vt.ownBlock ∨ ∀ k, vt'.ownBlock = some k → W.heap.size ≤ k) (hr : Fz (Gp Ba Bb Xa Xb vt) W (fun W => Rs W vr r.rows)) (hc : Fz (Gp Ba Bb Xa Xb vt) W (fun W => Rv W vc r.recs)) :
    Pm P W' base n vn vu vq vg Ba Bb Xa Xb ma mb vt' (ts ++ [(vr, vc)]) (tl ++ [r]) := by
  have hlt : ∀ k, Gp Ba Bb Xa Xb vt k → k < W.heap.size := h.a.lt
  have hsz := hg.size
  have hx : Ex (fun k => vt.ownBlock = some k) W W' := ⟨hg.os, hg.tape, hg.output, hg.size, fun k hk hn => hg.block k hk (fun e => hn e.symm)⟩
  have hG : ∀ k, k < W.heap.size → Gp Ba Bb Xa Xb vt' k → Gp Ba Bb Xa Xb vt k := fun k hk hh => by
    rcases hh with hh | hh
    · exact .inl hh
    · rcases hs with hs | hs
      · exact .inr (hs ▸ hh)
      · have := hs k hh; omega
  have hl2 : ∀ k, Gp Ba Bb Xa Xb vt' k → k < W'.heap.size := fun k hh => by
    rcases hh with hh | hh
    · have := hlt k (.inl hh); omega
    · exact own_lt ho k hh
  have hxG : Ex (Gp Ba Bb Xa Xb vt) W W' := hx.mono fun k _ hk => .inr hk
  refine ⟨h.a.exF hx (fun k hk e => h.sta k hk e) (fun k _ hk => .inr hk) hG (fun k hk => .inl (.inl hk)) hl2, h.b.exF hx (fun k hk e => h.stb k hk e) (fun k _ hk => .inr hk) hG (fun k hk => .inl (.inr hk)) hl2, ?_, by simp [h.len], ?_, h.fz.wide hxG hG, h.sep, fun k hk e => ?_, fun k hk e => ?_, fun k hk => ?_⟩
  · rw [rs_append h.len, List.length_append]
    exact ho
  · have h1 := h.rd.wide hxG hG
    have h2 := hr.wide hxG hG
    have h3 := hc.wide hxG hG
    intro w hw i hi hi2
    rcases Nat.lt_or_ge i ts.length with h5 | h5
    · have h6 : i < tl.length := by rw [← h.len]; exact h5
      rw [List.getElem_append_left h5, List.getElem_append_left h6]
      exact h1 w hw i h5 h6
    · obtain rfl : i = ts.length := by simp at hi; omega
      have e1 : (ts ++ [(vr, vc)])[ts.length]'hi = (vr, vc) := by simp
      have e2 : (tl ++ [r])[ts.length]'hi2 = r := by simp [h.len]
      rw [e1, e2]
      exact ⟨h2 w hw, h3 w hw⟩
  · rcases hs with hs | hs
    · exact h.sta k hk (hs ▸ e)
    · have h1 := hs k e
      have h2 := hlt k (.inl (.inl hk))
      omega
  · rcases hs with hs | hs
    · exact h.stb k hk (hs ▸ e)
    · have h1 := hs k e
      have h2 := hlt k (.inl (.inr hk))
      omega
  · rcases hk with hk | hk
    · exact h.low k (.inl hk)
    · exact ownBlock_ge ho k hk
end
end Go.Proofs.YtmapmeacjpoaoaaDoor
namespace Go.Proofs.YtmapmeacjpoaoaaDoor
open Go Go.RowKit

/-- How long the runes of a text are, from a place on. -/
def wholeF (s : ByteArray) : Nat → Nat → Int → Int
  | 0, _, n => n
  | f + 1, pos, n => if pos < s.size then (if (Utf8.decode s pos).1 < 128 then wholeF s f (pos + (Utf8.decode s pos).2) (wrap64 (n + 1)) else if (Utf8.decode s pos).1 < 2048 then wholeF s f (pos + (Utf8.decode s pos).2) (wrap64 (n + 2)) else if (Utf8.decode s pos).1 < 65536 then wholeF s f (pos + (Utf8.decode s pos).2) (wrap64 (n + 3)) else wholeF s f (pos + (Utf8.decode s pos).2) (wrap64 (n + 4))) else n
theorem wholeF_end {s : ByteArray} {pos : Nat} (h : ¬ pos < s.size) (f : Nat) (n : Int) : wholeF s f pos n = n := by
  cases f with
  | zero => rfl
  | succ f =>
    unfold wholeF
    rw [if_neg h]
theorem wholeF_next {s : ByteArray} {pos f : Nat} {n : Int} {t : Int} (h : pos < s.size) (hf : s.size - pos ≤ f) (ht : wholeF s f pos n = t) : ∃ g, s.size - (pos + (Utf8.decode s pos).2) ≤ g ∧ (if (Utf8.decode s pos).1 < 128 then wholeF s g (pos + (Utf8.decode s pos).2) (wrap64 (n + 1)) else if (Utf8.decode s pos).1 < 2048 then wholeF s g (pos + (Utf8.decode s pos).2) (wrap64 (n + 2)) else if (Utf8.decode s pos).1 < 65536 then wholeF s g (pos + (Utf8.decode s pos).2) (wrap64 (n + 3)) else wholeF s g (pos + (Utf8.decode s pos).2) (wrap64 (n + 4))) = t := by
  have hw := decode_wide s pos h
  cases f with
  | zero => omega
  | succ f =>
    refine ⟨f, by omega, ?_⟩
    rw [← ht]
    conv => rhs; unfold wholeF
    rw [if_pos h]
/-- The runes of a text that are letters, from a place on; none: one that is no letter. -/
def nameF (s : ByteArray) (lt : Nat → Bool) : Nat → Nat → Int → Option Int
  | 0, _, n => some n
  | f + 1, pos, n => if pos < s.size then (if lt (Utf8.decode s pos).1 then nameF s lt f (pos + (Utf8.decode s pos).2) (wrap64 (n + 1)) else none) else some n
theorem nameF_end {s : ByteArray} {lt : Nat → Bool} {pos : Nat} (h : ¬ pos < s.size) (f : Nat) (n : Int) : nameF s lt f pos n = some n := by
  cases f with
  | zero => rfl
  | succ f =>
    unfold nameF
    rw [if_neg h]
theorem nameF_next {s : ByteArray} {lt : Nat → Bool} {pos f : Nat} {n : Int} {t : Option Int} (h : pos < s.size) (hf : s.size - pos ≤ f) (ht : nameF s lt f pos n = t) : ∃ g, s.size - (pos + (Utf8.decode s pos).2) ≤ g ∧ (if lt (Utf8.decode s pos).1 then nameF s lt g (pos + (Utf8.decode s pos).2) (wrap64 (n + 1)) else none) = t := by
  have hw := decode_wide s pos h
  cases f with
  | zero => omega
  | succ f =>
    refine ⟨f, by omega, ?_⟩
    rw [← ht]
    conv => rhs; unfold nameF
    rw [if_pos h]

set_option maxHeartbeats 1000000 in
theorem whole_det (s : ByteArray) (w : World) : Calls Tryd.prog 67 #[.string s] w fun e w' => e = .returned (.bool (wholeF s s.size 0 0 == (s.size : Int))) ∧ Below w.heap.size w w' := by
  obtain ⟨T, hT⟩ : ∃ T, wholeF s s.size 0 0 = T := ⟨_, rfl⟩
  rw [hT]
  go_enter Tryd.func67, Tryd.ntmps67
  go_wp2_with fail
  go_loopw [3] (fun t wr => ∃ (n : Int) (pos : Nat), t = .int .i64 n ∧ wr = w.iter s pos ∧ Hid (∃ f, s.size - pos ≤ f ∧ wholeF s f pos n = T)) (fun _ wr => s.size - wr.iterPos w.heap.size)
  case atStart => exact ⟨0, 0, rfl, rfl, ⟨s.size, by omega, hT⟩⟩
  case round =>
    obtain ⟨n, pos, rfl, rfl, ⟨f, hf, ht⟩⟩ := hrel
    by_cases hp : pos < s.size
    · have hnx := fun ty => run_next_any (P := Tryd.prog) w s pos ty hp
      have hw := decode_wide s pos hp
      have HF := Lib.hid (wholeF_next hp hf ht)
      clear hf ht hT
      generalize (Utf8.decode s pos).2 = k at *
      generalize (Utf8.decode s pos).1 = c at *
      by_cases h1 : c < 128
      · have d1 : decide ((c : Int) < 128) = true := by simp; omega
        go_wp2_with fail
        go_roundw
        case rel =>
          obtain ⟨g, hg, h⟩ := HF.out
          rw [if_pos h1] at h
          exact ⟨_, pos + k, rfl, rfl, ⟨g, hg, h⟩⟩
        case measure => rw [World.iterPos_iter, World.iterPos_iter]; omega
      · have d1 : decide ((c : Int) < 128) = false := by simp; omega
        by_cases h2 : c < 2048
        · have d2 : decide ((c : Int) < 2048) = true := by simp; omega
          go_wp2_with fail
          go_roundw
          case rel =>
            obtain ⟨g, hg, h⟩ := HF.out
            rw [if_neg h1, if_pos h2] at h
            exact ⟨_, pos + k, rfl, rfl, ⟨g, hg, h⟩⟩
          case measure => rw [World.iterPos_iter, World.iterPos_iter]; omega
        · have d2 : decide ((c : Int) < 2048) = false := by simp; omega
          by_cases h3 : c < 65536
          · have d3 : decide ((c : Int) < 65536) = true := by simp; omega
            go_wp2_with fail
            go_roundw
            case rel =>
              obtain ⟨g, hg, h⟩ := HF.out
              rw [if_neg h1, if_neg h2, if_pos h3] at h
              exact ⟨_, pos + k, rfl, rfl, ⟨g, hg, h⟩⟩
            case measure => rw [World.iterPos_iter, World.iterPos_iter]; omega
          · have d3 : decide ((c : Int) < 65536) = false := by simp; omega
            go_wp2_with fail
            go_roundw
            case rel =>
              obtain ⟨g, hg, h⟩ := HF.out
              rw [if_neg h1, if_neg h2, if_neg h3] at h
              exact ⟨_, pos + k, rfl, rfl, ⟨g, hg, h⟩⟩
            case measure => rw [World.iterPos_iter, World.iterPos_iter]; omega
    · have hnx := fun ty => run_next_end (P := Tryd.prog) w s pos ty hp
      rw [wholeF_end hp] at ht
      subst ht
      clear hf hT
      go_wp2_with fail
      go_ret
      exact ⟨rfl, iter_below _ _ _⟩
noncomputable def isLetter (c : Nat) : Bool := Classical.choose (letter_any (c : Int))
theorem isLetter_calls (c : Nat) : ∀ w : World, Calls Tryd.prog 66 #[.int .i32 (c : Int)] w fun e w' => e = .returned (.bool (isLetter c)) ∧ w = w' := Classical.choose_spec (letter_any (c : Int))
/-- Is a text a name? -/
noncomputable def nameOk (s : ByteArray) : Bool := match nameF s isLetter s.size 0 0 with | some n => (wholeF s s.size 0 0 == (s.size : Int)) && (decide (1 ≤ n) && decide (n ≤ 12)) | none => false
theorem nameOk_some {s : ByteArray} {n : Int} (h : nameF s isLetter s.size 0 0 = some n) : nameOk s = ((wholeF s s.size 0 0 == (s.size : Int)) && (decide (1 ≤ n) && decide (n ≤ 12))) := by
  unfold nameOk
  rw [h]
theorem nameOk_none {s : ByteArray} (h : nameF s isLetter s.size 0 0 = none) : nameOk s = false := by
  unfold nameOk
  rw [h]
set_option maxHeartbeats 1000000 in
theorem name_det (s : ByteArray) (w : World) : Calls Tryd.prog 40 #[.string s] w fun e w' => e = .returned (.bool (nameOk s)) ∧ Below w.heap.size w w' := by
  have HW := Lib.hid (fun W => whole_det s W)
  have HS := Lib.hid (fun n => @nameOk_some s n)
  have HN := Lib.hid (@nameOk_none s)
  obtain ⟨wb, hwb⟩ : ∃ b, (wholeF s s.size 0 0 == (s.size : Int)) = b := ⟨_, rfl⟩
  rw [hwb] at HW HS
  obtain ⟨T, hT⟩ : ∃ T, nameF s isLetter s.size 0 0 = T := ⟨_, rfl⟩
  rw [hT] at HS HN
  obtain ⟨Rv, hR⟩ : ∃ b, nameOk s = b := ⟨_, rfl⟩
  rw [hR] at HS HN ⊢
  clear hwb hR
  go_enter Tryd.func40, Tryd.ntmps40
  go_wp2_with fail
  go_loopw [3] (fun t wr => ∃ (n : Int) (pos : Nat), t = .int .i64 n ∧ wr = w.iter s pos ∧ Hid (∃ f, s.size - pos ≤ f ∧ nameF s isLetter f pos n = T)) (fun _ wr => s.size - wr.iterPos w.heap.size)
  case atStart => exact ⟨0, 0, rfl, rfl, ⟨s.size, by omega, hT⟩⟩
  case round =>
    obtain ⟨n, pos, rfl, rfl, ⟨f, hf, ht⟩⟩ := hrel
    by_cases hp : pos < s.size
    · have hnx := fun ty => run_next_any (P := Tryd.prog) w s pos ty hp
      have hw := decode_wide s pos hp
      have HF := Lib.hid (nameF_next hp hf ht)
      clear hf ht hT
      generalize (Utf8.decode s pos).2 = k at *
      generalize (Utf8.decode s pos).1 = c at *
      have HL := Lib.hid (isLetter_calls c)
      cases hb : isLetter c with
      | true =>
        rw [hb] at HF HL
        clear hb
        go_wp2_with fail
        refine (HL.out _).mono ?_
        rintro e w' ⟨rfl, rfl⟩
        go_wp2_with fail
        go_roundw
        case rel =>
          obtain ⟨g, hg, h⟩ := HF.out
          simp only [if_true] at h
          exact ⟨_, pos + k, rfl, rfl, ⟨g, hg, h⟩⟩
        case measure => rw [World.iterPos_iter, World.iterPos_iter]; omega
      | false =>
        rw [hb] at HF HL
        clear hb
        obtain rfl : Rv = false := by
          obtain ⟨g, hg, h⟩ := HF.out
          exact HN.out (by rw [← h]; rfl)
        go_wp2_with fail
        refine (HL.out _).mono ?_
        rintro e w' ⟨rfl, rfl⟩
        go_wp2_with fail
        go_ret
        exact ⟨rfl, iter_below _ _ _⟩
    · have hnx := fun ty => run_next_end (P := Tryd.prog) w s pos ty hp
      rw [nameF_end hp] at ht
      have HV := Lib.hid (HS.out n ht.symm)
      clear hf ht hT HS HN
      have st := Lib.hid (HW.out (w.iter s pos))
      clear HW
      cases wb with
      | false =>
        obtain rfl : Rv = false := by rw [HV.out]; rfl
        clear HV
        go_wp2_with fail
        refine st.out.mono ?_
        rintro e w3 ⟨rfl, hx⟩
        have hfin := Lib.hid (below_next (iter_below w s pos) hx)
        clear hx hnx st
        go_wp2_with fail
        go_ret
        exact ⟨rfl, hfin.out⟩
      | true =>
        by_cases h1 : 1 ≤ n
        · have d1 : decide ((1 : Int) ≤ n) = true := by simpa using h1
          have HV2 : Hid (Rv = decide (n ≤ 12)) := by unfold Hid; rw [HV.out, d1]; rfl
          clear HV
          go_wp2_with fail
          refine st.out.mono ?_
          rintro e w3 ⟨rfl, hx⟩
          have hfin := Lib.hid (below_next (iter_below w s pos) hx)
          clear hx hnx st
          go_wp2_with fail
          go_ret
          exact ⟨by rw [HV2.out]; rfl, hfin.out⟩
        · have d1 : decide ((1 : Int) ≤ n) = false := by simpa using h1
          obtain rfl : Rv = false := by rw [HV.out, d1]; rfl
          clear HV
          go_wp2_with fail
          refine st.out.mono ?_
          rintro e w3 ⟨rfl, hx⟩
          have hfin := Lib.hid (below_next (iter_below w s pos) hx)
          clear hx hnx st
          go_wp2_with fail
          go_ret
          exact ⟨rfl, hfin.out⟩
noncomputable def where_ (l : List (List UInt8)) (s : List UInt8) : Int := Classical.choose (find_any l s)
theorem where_calls (l : List (List UInt8)) (s : List UInt8) : ∀ (v : Value) (w : World), Ks w v l → Calls Tryd.prog 41 #[v, .string (str s)] w fun e w' => e = .returned (.int .i64 (where_ l s)) ∧ w = w' := Classical.choose_spec (find_any l s)
noncomputable def rowOk (ns : List (List UInt8)) (qs : List Int) (k : Nat) : Bool := nameOk (str (ns.getD k [])) && (!(decide (qs.getD k 0 < 4)) && (!(decide (1000 < qs.getD k 0)) && !(decide (0 ≤ where_ (ns.take k) (ns.getD k [])))))
/-- Is a configuration right? -/
noncomputable def confOk (ns : List (List UInt8)) (us : List Nat) (qs : List Int) (gs : List Gr) : Bool := decide (ns.length = us.length) && (decide (ns.length = qs.length) && (L.check us && (L.gcheck us gs && (List.range ns.length).all (rowOk ns qs))))

set_option maxRecDepth 4000 in
set_option maxHeartbeats 8000000 in
theorem check5_det (vn vu vq vg : Value) (ns : List (List UInt8)) (us : List Nat) (qs : List Int) (gs : List Gr) (w : World) (h : Cf w vn vu vq vg ns us qs gs) :
    Calls Tryd.prog 16 #[cfv vn vu vq vg] w fun e w' => e = .returned (.bool (confOk ns us qs gs)) ∧ Below w.heap.size w w' := by
  have HV : Hid (confOk ns us qs gs = (decide (ns.length = us.length) && (decide (ns.length = qs.length) && (L.check us && (L.gcheck us gs && (List.range ns.length).all (rowOk ns qs)))))) := rfl
  obtain ⟨Rv, hR⟩ : ∃ b, confOk ns us qs gs = b := ⟨_, rfl⟩
  rw [hR] at HV ⊢
  clear hR
  obtain ⟨an, cn, rfl, -⟩ := h.n.shape
  obtain ⟨au, cu, rfl, -⟩ := h.u.shape
  obtain ⟨aq, cq, rfl, -⟩ := Sl.shape h.q
  have hbig := h.n.len
  have HC := Lib.hid (fun W (hW : Below w.heap.size w W) => refCheck_any _ us W (h.below hW).u h.u64)
  have HG := Lib.hid (fun W (hW : Below w.heap.size w W) => refGcheck_any _ us vg gs W (h.below hW).u h.u64 (h.below hW).g)
  have HCf := Lib.hid h
  have HB := Lib.hid (Cb.new w (.slice an ns.length cn) (.slice au us.length cu) (.slice aq qs.length cq) vg)
  have hb1 : Hid (Below w.heap.size w (w.alloc (.cells #[.slice an ns.length cn, .slice au us.length cu, .slice aq qs.length cq, vg] 27))) := (Below.refl _ _).alloc (Nat.le_refl _) _
  obtain ⟨n, hn⟩ : ∃ n, ns.length = n := ⟨_, rfl⟩
  obtain ⟨n2, hn2⟩ : ∃ n, us.length = n := ⟨_, rfl⟩
  obtain ⟨n3, hn3⟩ : ∃ n, qs.length = n := ⟨_, rfl⟩
  have HN := Lib.hid hn
  have HN3 := Lib.hid hn3
  rw [hn, hn2, hn3] at HB hb1
  rw [hn2] at HC HG
  rw [hn, hn2, hn3] at HCf
  rw [hn] at hbig
  rw [hn, hn2, hn3]
  rw [hn, hn2, hn3] at HV
  clear h hn hn2 hn3
  by_cases h2 : n = n2
  · subst h2
    have d2 : ((n : Int) != (n : Int)) = false := by simp
    by_cases h3 : n = n3
    · subst h3
      cases hck : L.check us with
      | false =>
        obtain rfl : Rv = false := by rw [HV.out, hck]; simp
        clear HV
        have st := HC.out _ hb1.out
        rw [hck] at st
        have st := Lib.hid st
        clear hck HC HG
        go_enter Tryd.func16, Tryd.ntmps16
        go_wp2_with fail
        refine st.out.mono ?_
        rintro e w2 ⟨rfl, hx⟩
        have hfin := Lib.hid (below_next hb1.out hx)
        clear hx st
        go_wp2_with fail
        go_ret
        exact ⟨rfl, hfin.out⟩
      | true =>
        have st := HC.out _ hb1.out
        rw [hck] at st
        have st := Lib.hid st
        rw [hck] at HV
        clear hck HC
        cases hgk : L.gcheck us gs with
        | false =>
          obtain rfl : Rv = false := by rw [HV.out, hgk]; simp
          clear HV
          go_enter Tryd.func16, Tryd.ntmps16
          go_wp2_with fail
          refine st.out.mono ?_
          rintro e w2 ⟨rfl, hx⟩
          have hb2 := Lib.hid (below_next hb1.out hx)
          have HB2 := Lib.hid (HB.out.later hx)
          have st := HG.out w2 hb2.out
          rw [hgk] at st
          have st := Lib.hid st
          clear hx hgk HG
          have c1 := HB2.out.cell.2.1
          have c3 := HB2.out.cell.2.2.2
          go_wp2_with fail
          refine st.out.mono ?_
          rintro e w3 ⟨rfl, hx⟩
          have hfin := Lib.hid (below_next hb2.out hx)
          clear hx st c1 c3
          go_wp2_with fail
          go_ret
          exact ⟨rfl, hfin.out⟩
        | true =>
          rw [hgk] at HV
          have HRR : Hid (Rv = (List.range n).all (rowOk ns qs)) := by unfold Hid; rw [HV.out]; simp
          clear HV
          go_enter Tryd.func16, Tryd.ntmps16
          go_wp2_with fail
          refine st.out.mono ?_
          rintro e w2 ⟨rfl, hx⟩
          have hb2 := Lib.hid (below_next hb1.out hx)
          have HB2 := Lib.hid (HB.out.later hx)
          have st := HG.out w2 hb2.out
          rw [hgk] at st
          have st := Lib.hid st
          clear hx hgk HG HB hb1
          have c1 := HB2.out.cell.2.1
          have c3 := HB2.out.cell.2.2.2
          go_wp2_with fail
          refine st.out.mono ?_
          rintro e w3 ⟨rfl, hx⟩
          have hb3 := Lib.hid (below_next hb2.out hx)
          have HB3 := Lib.hid (HB2.out.later hx)
          clear hx st c1 c3 HB2 hb2
          have c0 := HB3.out.cell.1
          go_wp2_with fail
          clear c0
          go_loopw [3] (fun i wr => ∃ k : Nat, k ≤ n ∧ i = .int .i64 k ∧ Hid (∀ j, j < k → rowOk ns qs j = true) ∧ Hid (Cb wr w.heap.size (.slice an n cn) (.slice au n cu) (.slice aq n cq) vg) ∧ Hid (Below w.heap.size w wr)) (fun i _ => n - (intOf i).toNat)
          case atStart => exact ⟨0, by omega, rfl, (fun j hj => by omega), HB3, hb3⟩
          case round =>
            clear HB3 hb3
            obtain ⟨k, hk, rfl, HJ, HCB, hbr⟩ := hrel
            have c0 := HCB.out.cell.1
            by_cases hkn : k < n
            · have hkI : (k : Int) < (n : Int) := by omega
              have hk0 : (0 : Int) ≤ (k : Int) := by omega
              obtain ⟨bn, on, rfl, hat⟩ := HCf.out.n.at (j := k) (by rw [HN.out]; exact hkn)
              have hs := hat wr hbr.out k (by rw [HN.out]; exact hkn)
              have HSt : Hid (∀ W, Below w.heap.size w W → W.cell? ⟨bn, on + k, none⟩ = some (.string (str (ns[k]'(by rw [HN.out]; exact hkn))))) := fun W hW => hat W hW k (by rw [HN.out]; exact hkn)
              obtain ⟨bq, oq, rfl, -⟩ := Zs.at (j := k) HCf.out.q (by rw [HN3.out]; exact hkn)
              have HQt : Hid (∀ W, Below w.heap.size w W → W.cell? ⟨bq, oq + k, none⟩ = some (.int .i64 (qs[k]'(by rw [HN3.out]; exact hkn)))) := fun W hW => by
                obtain ⟨b', o', e, hc⟩ := Zs.at (j := k) (Sl.below HCf.out.q hW) (by rw [HN3.out]; exact hkn)
                obtain ⟨rfl, rfl⟩ : bq = b' ∧ oq = o' := by simpa using e
                exact hc k (by rw [HN3.out]; exact hkn)
              obtain ⟨vt, HVt, hrt⟩ := HCf.out.n.take HN.out k hk
              obtain ⟨x, hx⟩ : ∃ x, ns[k]'(by rw [HN.out]; exact hkn) = x := ⟨_, rfl⟩
              obtain ⟨y, hy⟩ : ∃ y, qs[k]'(by rw [HN3.out]; exact hkn) = y := ⟨_, rfl⟩
              rw [hx] at hs HSt
              rw [hy] at HQt
              clear hat
              have HRO : Hid (rowOk ns qs k = (nameOk (str x) && (!(decide (y < 4)) && (!(decide (1000 < y)) && !(decide (0 ≤ where_ (ns.take k) x)))))) := by
                unfold Hid rowOk
                rw [List.getD_eq_getElem?_getD, List.getD_eq_getElem?_getD, List.getElem?_eq_getElem (by rw [HN.out]; exact hkn), List.getElem?_eq_getElem (by rw [HN3.out]; exact hkn), Option.getD_some, Option.getD_some, hx, hy]
              have HRF : Hid (rowOk ns qs k = false → Rv = false) := fun h => by
                rw [HRR.out, Bool.eq_false_iff]
                intro h2
                rw [List.all_eq_true] at h2
                have h3 := h2 k (List.mem_range.2 hkn)
                rw [h] at h3
                cases h3
              have HRT : Hid (rowOk ns qs k = true → ∀ j, j < k + 1 → rowOk ns qs j = true) := fun h j hj => by
                by_cases hjk : j = k
                · rw [hjk]; exact h
                · exact HJ.out j (by omega)
              have hr := where_calls (ns.take k) x
              obtain ⟨r, hrr⟩ : ∃ r, where_ (ns.take k) x = r := ⟨_, rfl⟩
              rw [hrr] at hr HRO
              clear hrr
              clear HRR HJ
              have HFd : Hid (∀ W, Below w.heap.size w W → Calls Tryd.prog 41 #[vt, .string (str x)] W fun e w' => e = .returned (.int .i64 r) ∧ Ext W w') := fun W hW => (hr vt W (HVt.below hW)).mono fun e w' ⟨h1, h2⟩ => ⟨h1, ext_of_eq h2⟩
              clear hx hy
              have st := Lib.hid (name_det (str x) wr)
              obtain ⟨b, hbb⟩ : ∃ b, nameOk (str x) = b := ⟨_, rfl⟩
              rw [hbb] at st HRO
              clear hbb
              clear hr HVt
              go_wp2_with fail
              refine st.out.mono ?_
              rintro e w4 ⟨rfl, hx⟩
              have HCB4 := Lib.hid (HCB.out.later hx)
              have hbr4 := Lib.hid (below_next hbr.out hx)
              clear hx st HCB hbr hs c0
              go_wp2_with fail
              refine wp_region_mix ext_grow [(0, false), (1, false), (2, false), (3, false), (4, false), (5, false), (6, false), (7, false), (8, false), (9, false), (10, false), (11, false), (12, false), (13, false), (14, false), (15, false), (16, false), (17, false), (18, false), (19, false), (20, false), (21, false), (22, false), (23, false), (24, false), (25, false), (26, false), (27, false), (28, false), (29, false), (30, false)] (by kernel_rfl) (by kernel_rfl) ?_
              have HC4 : Hid (Cb w4.drew w.heap.size (.slice (some ⟨bn, on, none⟩) n cn) (.slice au n cu) (.slice (some ⟨bq, oq, none⟩) n cq) vg) := HCB4.out
              have hb4 : Hid (Below w.heap.size w w4.drew) := hbr4.out.drew
              clear HCB4 hbr4
              generalize w4.drew = w5 at *
              have hbx : ∀ z : Later w5, Below w.heap.size w z.1 := fun z => below_next hb4.out z.2
              have c0 : ∀ z : Later w5, z.1.cell? ⟨w.heap.size, 0, none⟩ = some (.slice (some ⟨bn, on, none⟩) n cn) := fun z => (HC4.out.later z.2).cell.1
              have c2 : ∀ z : Later w5, z.1.cell? ⟨w.heap.size, 2, none⟩ = some (.slice (some ⟨bq, oq, none⟩) n cq) := fun z => (HC4.out.later z.2).cell.2.2.1
              have s0 : ∀ z : Later w5, z.1.cell? ⟨bn, on + k, none⟩ = some (.string (str x)) := fun z => HSt.out z.1 (hbx z)
              have z0 : ∀ z : Later w5, z.1.cell? ⟨bq, oq + k, none⟩ = some (.int .i64 y) := fun z => HQt.out z.1 (hbx z)
              have HFy : Hid (∀ z : Later w5, Calls Tryd.prog 41 #[vt, .string (str x)] z.1 fun e w' => e = .returned (.int .i64 r) ∧ Ext z.1 w') := fun z => HFd.out z.1 (hbx z)
              have HBX := Lib.hid hbx
              clear hbx HSt HQt HFd
              cases b with
              | false =>
                obtain rfl : Rv = false := HRF.out (by rw [HRO.out]; rfl)
                repeat (refine mix_soft rfl (fun K hK => ?_); go_simp; (first | (refine hK _ ?_; clear hK K) | (apply Exists.intro; refine ⟨fun z => ?_, hK _ ?_⟩; (first | (go_at_call 41; with_reducible exact HFy.out z)); clear hK K)))
                refine mix_done fun w6 hx => ?_
                have hb6 : Hid (Below w.heap.size w w6) := HBX.out ⟨w6, hx⟩
                have HC6 := Lib.hid (HC4.out.later hx)
                clear hx HBX hb4 HC4 c0 c2 s0 z0 HFy
                go_wp2_with fail
                go_ret
                first | exact ⟨rfl, hb6.out⟩ | exact ⟨.inl rfl, hb6.out⟩ | exact .inl ⟨rfl, hb6.out⟩
              | true =>
                by_cases h4 : y < 4
                · have d4 : decide (y < 4) = true := by simpa using h4
                  obtain rfl : Rv = false := HRF.out (by rw [HRO.out, d4]; rfl)
                  repeat (refine mix_soft rfl (fun K hK => ?_); go_simp; (first | (refine hK _ ?_; clear hK K) | (apply Exists.intro; refine ⟨fun z => ?_, hK _ ?_⟩; (first | (go_at_call 41; with_reducible exact HFy.out z)); clear hK K)))
                  refine mix_done fun w6 hx => ?_
                  have hb6 : Hid (Below w.heap.size w w6) := HBX.out ⟨w6, hx⟩
                  have HC6 := Lib.hid (HC4.out.later hx)
                  clear hx HBX hb4 HC4 c0 c2 s0 z0 HFy
                  go_wp2_with fail
                  go_ret
                  first | exact ⟨rfl, hb6.out⟩ | exact ⟨.inl rfl, hb6.out⟩ | exact .inl ⟨rfl, hb6.out⟩
                · have d4 : decide (y < 4) = false := by simpa using h4
                  by_cases h1 : 1000 < y
                  · have d5 : decide (1000 < y) = true := by simpa using h1
                    obtain rfl : Rv = false := HRF.out (by rw [HRO.out, d4, d5]; rfl)
                    repeat (refine mix_soft rfl (fun K hK => ?_); go_simp; (first | (refine hK _ ?_; clear hK K) | (apply Exists.intro; refine ⟨fun z => ?_, hK _ ?_⟩; (first | (go_at_call 41; with_reducible exact HFy.out z)); clear hK K)))
                    refine mix_done fun w6 hx => ?_
                    have hb6 : Hid (Below w.heap.size w w6) := HBX.out ⟨w6, hx⟩
                    have HC6 := Lib.hid (HC4.out.later hx)
                    clear hx HBX hb4 HC4 c0 c2 s0 z0 HFy
                    go_wp2_with fail
                    go_ret
                    first | exact ⟨rfl, hb6.out⟩ | exact ⟨.inl rfl, hb6.out⟩ | exact .inl ⟨rfl, hb6.out⟩
                  · have d5 : decide (1000 < y) = false := by simpa using h1
                    by_cases hr0 : 0 ≤ r
                    · have d6 : decide (0 ≤ r) = true := by simpa using hr0
                      obtain rfl : Rv = false := HRF.out (by rw [HRO.out, d4, d5, d6]; rfl)
                      repeat (refine mix_soft rfl (fun K hK => ?_); go_simp; (first | (refine hK _ ?_; clear hK K) | (apply Exists.intro; refine ⟨fun z => ?_, hK _ ?_⟩; (first | (go_at_call 41; with_reducible exact HFy.out z)); clear hK K)))
                      refine mix_done fun w6 hx => ?_
                      have hb6 : Hid (Below w.heap.size w w6) := HBX.out ⟨w6, hx⟩
                      have HC6 := Lib.hid (HC4.out.later hx)
                      clear hx HBX hb4 HC4 c0 c2 s0 z0 HFy
                      go_wp2_with fail
                      go_ret
                      first | exact ⟨rfl, hb6.out⟩ | exact ⟨.inl rfl, hb6.out⟩ | exact .inl ⟨rfl, hb6.out⟩
                    · have d6 : decide (0 ≤ r) = false := by simpa using hr0
                      have HJ2 := Lib.hid (HRT.out (by rw [HRO.out, d4, d5, d6]; rfl))
                      clear HRT HRF HRO
                      repeat (refine mix_soft rfl (fun K hK => ?_); go_simp; (first | (refine hK _ ?_; clear hK K) | (apply Exists.intro; refine ⟨fun z => ?_, hK _ ?_⟩; (first | (go_at_call 41; with_reducible exact HFy.out z)); clear hK K)))
                      refine mix_done fun w6 hx => ?_
                      have hb6 : Hid (Below w.heap.size w w6) := HBX.out ⟨w6, hx⟩
                      have HC6 := Lib.hid (HC4.out.later hx)
                      clear hx HBX hb4 HC4 c0 c2 s0 z0 HFy
                      go_wp2_with fail
                      go_roundw
                      case rel => exact ⟨k + 1, by omega, by go_num, HJ2, HC6, hb6⟩
                      case measure => simp [intOf]; omega
            · have hkI : ¬ ((k : Int) < (n : Int)) := by omega
              obtain rfl : Rv = true := by
                rw [HRR.out, List.all_eq_true]
                exact fun j hj => HJ.out j (by have := List.mem_range.1 hj; omega)
              go_wp2_with fail
              go_ret
              first | exact ⟨rfl, hbr.out⟩ | exact ⟨.inr rfl, hbr.out⟩ | exact .inr ⟨rfl, hbr.out⟩
    · have d3 : ((n : Int) != (n3 : Int)) = true := by rw [bne_iff_ne]; omega
      obtain rfl : Rv = false := by rw [HV.out]; simp [h3]
      clear HC HG HV
      go_enter Tryd.func16, Tryd.ntmps16
      go_wp2_with fail
      go_ret
      exact ⟨rfl, hb1.out⟩
  · have d2 : ((n : Int) != (n2 : Int)) = true := by rw [bne_iff_ne]; omega
    obtain rfl : Rv = false := by rw [HV.out]; simp [h2]
    clear HC HG HV
    go_enter Tryd.func16, Tryd.ntmps16
    go_wp2_with fail
    go_ret
    exact ⟨rfl, hb1.out⟩
theorem confOk_has {ns : List (List UInt8)} {us : List Nat} {qs : List Int} {gs : List Gr} (h : confOk ns us qs gs = true) : L.check us = true ∧ L.gcheck us gs = true := by
  unfold confOk at h
  simp only [Bool.and_eq_true] at h
  exact ⟨h.2.2.1, h.2.2.2.1⟩
set_option maxRecDepth 4000 in
set_option maxHeartbeats 4000000 in
theorem small_det (vn vu vq vg vl : Value) (ns : List (List UInt8)) (us : List Nat) (qs : List Int) (gs : List Gr) (l : List Opr) (w : World) (h : Cf w vn vu vq vg ns us qs gs) (hl : Os w vl l) :
    Calls Tryd.prog 5 #[cfv vn vu vq vg, vl] w fun e w' => ∃ b, e = .returned (.bool b) ∧ (b = true → Small us gs l ∧ confOk ns us qs gs = true) ∧ Below w.heap.size w w' := by
  obtain ⟨ao, cap, rfl, -⟩ := hl.shape
  obtain ⟨au, cu, rfl, -⟩ := h.u.shape
  have hbig := hl.len
  have HL := Lib.hid hl
  have HK := Lib.hid (fun W (hW : Below w.heap.size w W) => check5_det _ _ _ _ ns us qs gs W (h.below hW))
  have HSm : Hid (l.length ≤ 120 → us.length ≤ 12 → (∀ o ∈ l, o.keep.length ≤ 70) → confOk ns us qs gs = true → Small us gs l ∧ confOk ns us qs gs = true) := fun a b c d => ⟨⟨a, b, c, (confOk_has d).1, (confOk_has d).2⟩, d⟩
  have HB := Lib.hid (Cb.new w vn (.slice au us.length cu) vq vg)
  have hb1 : Hid (Below w.heap.size w (w.alloc (.cells #[vn, .slice au us.length cu, vq, vg] 27))) := (Below.refl _ _).alloc (Nat.le_refl _) _
  clear hl h
  obtain ⟨n, hn⟩ : ∃ n, l.length = n := ⟨_, rfl⟩
  have HN := Lib.hid hn
  obtain ⟨n2, hn2⟩ : ∃ n, us.length = n := ⟨_, rfl⟩
  rw [hn] at HL hbig HSm
  rw [hn2] at HK HB hb1 HSm
  rw [hn, hn2]
  clear hn hn2
  go_enter Tryd.func5, Tryd.ntmps5
  go_wp2_with fail
  go_loopw [5] (fun i wr => ∃ k : Nat, k ≤ n ∧ i = .int .i64 k ∧ Hid (∀ o ∈ l.take k, o.keep.length ≤ 70) ∧ Hid (Cb wr w.heap.size vn (.slice au n2 cu) vq vg) ∧ Hid (Below w.heap.size w wr)) (fun i _ => n - (intOf i).toNat)
  case atStart => exact ⟨0, by omega, rfl, (fun o ho => by simp at ho), HB, hb1⟩
  case round =>
    clear HB hb1
    obtain ⟨k, hk, rfl, HT, HCB, hbr⟩ := hrel
    by_cases hkn : k < n
    · have hkI : (k : Int) < (n : Int) := by omega
      have hk0 : (0 : Int) ≤ (k : Int) := by omega
      obtain ⟨b, off, u, rfl, hks, hat⟩ := HL.out.at (j := k) (by rw [HN.out]; exact hkn)
      obtain ⟨ua, uc, rfl, -⟩ := hks.shape
      have HT2 : Hid ((l[k]'(by rw [HN.out]; exact hkn)).keep.length ≤ 70 → ∀ o ∈ l.take (k + 1), o.keep.length ≤ 70) := fun h o ho => by
        rw [List.take_succ_eq_append_getElem (by rw [HN.out]; exact hkn)] at ho
        rcases List.mem_append.1 ho with ho | ho
        · exact HT.out o ho
        · rw [List.mem_singleton.1 ho]; exact h
      generalize (l[k]'(by rw [HN.out]; exact hkn)).keep.length = uq at *
      obtain ⟨o, ho⟩ : ∃ o, l[k]'(by rw [HN.out]; exact hkn) = o := ⟨_, rfl⟩
      rw [ho] at hat
      obtain ⟨p0, p1, p2, p3, p4, p5, p6, p7, p8, p9, p10⟩ := hat wr hbr.out
      simp only [Op11.put] at p4 p5 p6 p10
      clear ho hat hks p0 p1 p2 p3 p7 p8 p9
      by_cases h1 : 500 < o.val.length
      · have d1 : decide ((500 : Int) < (o.val.length : Int)) = true := by simp; omega
        go_wp2_with fail
        go_ret
        first | exact ⟨false, rfl, (fun h => by cases h), hbr.out⟩ | exact ⟨.inl rfl, hbr.out⟩ | exact ⟨rfl, hbr.out⟩ | exact .inl ⟨rfl, hbr.out⟩ | exact .inl ⟨rfl, (fun h => by cases h), hbr.out⟩
      · have d1 : decide ((500 : Int) < (o.val.length : Int)) = false := by simp; omega
        by_cases h2 : 60 < o.bucket.length
        · have d2 : decide ((60 : Int) < (o.bucket.length : Int)) = true := by simp; omega
          go_wp2_with fail
          go_ret
          first | exact ⟨false, rfl, (fun h => by cases h), hbr.out⟩ | exact ⟨.inl rfl, hbr.out⟩ | exact ⟨rfl, hbr.out⟩ | exact .inl ⟨rfl, hbr.out⟩ | exact .inl ⟨rfl, (fun h => by cases h), hbr.out⟩
        · have d2 : decide ((60 : Int) < (o.bucket.length : Int)) = false := by simp; omega
          by_cases h3 : 60 < o.key.length
          · have d3 : decide ((60 : Int) < (o.key.length : Int)) = true := by simp; omega
            go_wp2_with fail
            go_ret
            first | exact ⟨false, rfl, (fun h => by cases h), hbr.out⟩ | exact ⟨.inl rfl, hbr.out⟩ | exact ⟨rfl, hbr.out⟩ | exact .inl ⟨rfl, hbr.out⟩ | exact .inl ⟨rfl, (fun h => by cases h), hbr.out⟩
          · have d3 : decide ((60 : Int) < (o.key.length : Int)) = false := by simp; omega
            by_cases h4 : 70 < uq
            · have d4 : decide ((70 : Int) < (uq : Int)) = true := by simp; omega
              go_wp2_with fail
              go_ret
              first | exact ⟨false, rfl, (fun h => by cases h), hbr.out⟩ | exact ⟨.inl rfl, hbr.out⟩ | exact ⟨rfl, hbr.out⟩ | exact .inl ⟨rfl, hbr.out⟩ | exact .inl ⟨rfl, (fun h => by cases h), hbr.out⟩
            · have d4 : decide ((70 : Int) < (uq : Int)) = false := by simp; omega
              have HT3 := Lib.hid (HT2.out (by omega))
              clear HT2
              go_wp2_with fail
              go_roundw
              case rel => exact ⟨k + 1, by omega, by go_num, HT3, HCB, hbr⟩
              case measure => simp [intOf]; omega
    · have hkI : ¬ ((k : Int) < (n : Int)) := by omega
      rw [List.take_of_length_le (by rw [HN.out]; omega)] at HT
      by_cases h1 : n ≤ 120
      · have d1 : decide ((n : Int) ≤ 120) = true := by simp; omega
        have c1 := HCB.out.cell.2.1
        by_cases h2 : n2 ≤ 12
        · have d2 : decide ((n2 : Int) ≤ 12) = true := by simp; omega
          have c0 := HCB.out.cell.1
          have c2 := HCB.out.cell.2.2.1
          have c3 := HCB.out.cell.2.2.2
          obtain ⟨b, hbb⟩ : ∃ b, confOk ns us qs gs = b := ⟨_, rfl⟩
          have st := HK.out wr hbr.out
          rw [hbb] at st
          have st := Lib.hid st
          have HBB := Lib.hid hbb
          clear HK hbb
          go_wp2_with fail
          refine st.out.mono ?_
          rintro e w2 ⟨rfl, hx⟩
          have hfin := Lib.hid (below_next hbr.out hx)
          have HF : Hid (b = true → Small us gs l ∧ confOk ns us qs gs = true) := fun h => HSm.out h1 h2 HT.out (HBB.out.trans h)
          clear hx st c0 c1 c2 c3
          go_wp2_with fail
          go_ret
          first | exact ⟨b, rfl, HF.out, hfin.out⟩ | exact ⟨rfl, HF.out, hfin.out⟩
        · have d2 : decide ((n2 : Int) ≤ 12) = false := by simp; omega
          go_wp2_with fail
          go_ret
          first | exact ⟨false, rfl, (fun h => by cases h), hbr.out⟩ | exact ⟨.inl rfl, hbr.out⟩ | exact ⟨rfl, hbr.out⟩ | exact .inl ⟨rfl, hbr.out⟩ | exact .inl ⟨rfl, (fun h => by cases h), hbr.out⟩
      · have d1 : decide ((n : Int) ≤ 120) = false := by simp; omega
        go_wp2_with fail
        go_ret
        first | exact ⟨false, rfl, (fun h => by cases h), hbr.out⟩ | exact ⟨.inl rfl, hbr.out⟩ | exact ⟨rfl, hbr.out⟩ | exact .inl ⟨rfl, hbr.out⟩ | exact .inl ⟨rfl, (fun h => by cases h), hbr.out⟩
end Go.Proofs.YtmapmeacjpoaoaaDoor
namespace Go.Proofs.YtmapmeacjpoaoaaDoor
open Go Go.RowKit

/-- A row that was made lies in its block. -/
theorem made_at {w : World} {base e n b : Nat} {z : Value} (h : w.heap[b]? = some (.cells (madeCells #[z] n) e (0, 0))) (hb : base ≤ b) (hn : n ≤ 100) : w.ownsRow base e 1 (slv b n) n (List.replicate n z) :=
  ⟨by simp, .inr ⟨b, n, madeCells #[z] n, rfl, hb, h, Nat.le_refl _, by unfold maxLen; omega, by simp [madeCells], by rw [made_one]; simp⟩⟩
theorem infoI2 : (Tryd.prog.info? 3).map (fun i => (i.zero, i.size, i.bytes)) = some (some (.int .i64 0), 1, 8) := by kernel_rfl
/-- A new model, from the blocks that were made for it. -/
theorem new_mem {G : Nat → Prop} {w w' : World} {B n bL bA bH bD : Nat} {vn vu vq vg : Value} (hw : ∀ k, G k → k < w.heap.size) (hb : Below w.heap.size w w')
    (hB : w'.heap[B]? = some (.cells #[vn, vu, vq, vg, slv bL n, slv bA n, slv bH n, slv bD n, .slice none 0 0, .slice none 0 0] 64 (0, 0))) (hBw : w.heap.size ≤ B)
    (oL : w'.ownsRow w.heap.size 92 1 (slv bL n) n (List.replicate n (.slice none 0 0))) (oA : w'.ownsRow w.heap.size 43 1 (slv bA n) n (List.replicate n (.slice none 0 0)))
    (oH : w'.ownsRow w.heap.size 3 1 (slv bH n) n (List.replicate n (.int .i64 0))) (oD : w'.ownsRow w.heap.size 92 1 (slv bD n) n (List.replicate n (.slice none 0 0))) (hne : bL ≠ bD) :
    ∃ X : Mv, Mem (fun k => G k ∨ X.foot B k) w' B n vn vu vq vg X (M.new n) ∧ ∀ k, X.foot B k → w.heap.size ≤ k := by
  have hlen : ∀ i : Nat, i < n → i < (List.replicate n ([] : List En)).length := fun i h => by simpa using h
  refine ⟨⟨bL, bA, bH, bD, List.replicate n (.slice none 0 0), List.replicate n (.slice none 0 0), List.replicate n (.slice none 0 0), .slice none 0 0, [], .slice none 0 0, []⟩, ⟨⟨hB, ownsRow.base oL (Nat.zero_le _), ownsRow.base oA (Nat.zero_le _), ?_, ownsRow.base oD (Nat.zero_le _), World.ownsRow_nil _ _ _ _, rfl, by simp [M.new], by simp [M.new], by simp [M.new], by simp [M.new]⟩, ?_, fun k hk => .inr hk, hne, ?_⟩, ?_⟩
  · have e : intsV (List.replicate n 0) = List.replicate n (.int .i64 0) := by simp [intsV]
    show w'.ownsRow 0 3 1 (slv bH n) n (intsV (List.replicate n 0))
    rw [e]
    exact ownsRow.base oH (Nat.zero_le _)
  · intro W _
    refine ⟨fun i h h2 => ?_, fun i h h2 => ?_, fun i h h2 => ?_, Sv.nil W, fun i h => by simp at h⟩
    · simp only [M.new, List.getElem_replicate]
      exact Three.Ss.nil _
    · simp only [M.new, List.getElem_replicate]
      exact Rv.nil _
    · simp only [M.new, List.getElem_replicate]
      exact Three.Ss.nil _
  · rintro k (hk | hk)
    · exact Nat.lt_of_lt_of_le (hw k hk) hb.size
    · unfold Mv.foot at hk
      simp only [] at hk
      rcases hk with hk | hk | hk | hk | hk | hk
      · rw [hk]; exact (Array.getElem?_eq_some_iff.1 hB).1
      · rw [hk]; exact own_lt oL bL rfl
      · rw [hk]; exact own_lt oA bA rfl
      · rw [hk]; exact own_lt oH bH rfl
      · rw [hk]; exact own_lt oD bD rfl
      · simp [Value.ownBlock] at hk
  · intro k hk
    unfold Mv.foot at hk
    simp only [] at hk
    rcases hk with hk | hk | hk | hk | hk | hk
    · rw [hk]; exact hBw
    · rw [hk]; exact ownBlock_ge oL bL rfl
    · rw [hk]; exact ownBlock_ge oA bA rfl
    · rw [hk]; exact ownBlock_ge oH bH rfl
    · rw [hk]; exact ownBlock_ge oD bD rfl
    · simp [Value.ownBlock] at hk

theorem heap_al (w : World) (o : Obj) : (w.alloc o).heap = w.heap.push o := rfl
theorem heap_dr (w : World) : w.drew.heap = w.heap := rfl
theorem at_new0 (w : World) (A B C D E : Obj) : ((((((w.alloc A).alloc B).alloc C).alloc D).alloc E).drew).heap[w.heap.size ]? = some A := by
  simp only [heap_dr, heap_al, Array.getElem?_push, Array.size_push]
  repeat (rw [if_neg (by omega)])
  simp
theorem at_new1 (w : World) (A B C D E : Obj) : ((((((w.alloc A).alloc B).alloc C).alloc D).alloc E).drew).heap[w.heap.size + 1]? = some B := by
  simp only [heap_dr, heap_al, Array.getElem?_push, Array.size_push]
  repeat (rw [if_neg (by omega)])
  simp
theorem at_new2 (w : World) (A B C D E : Obj) : ((((((w.alloc A).alloc B).alloc C).alloc D).alloc E).drew).heap[w.heap.size + 1 + 1]? = some C := by
  simp only [heap_dr, heap_al, Array.getElem?_push, Array.size_push]
  repeat (rw [if_neg (by omega)])
  simp
theorem at_new3 (w : World) (A B C D E : Obj) : ((((((w.alloc A).alloc B).alloc C).alloc D).alloc E).drew).heap[w.heap.size + 1 + 1 + 1]? = some D := by
  simp only [heap_dr, heap_al, Array.getElem?_push, Array.size_push]
  repeat (rw [if_neg (by omega)])
  simp
theorem at_new4 (w : World) (A B C D E : Obj) : ((((((w.alloc A).alloc B).alloc C).alloc D).alloc E).drew).heap[w.heap.size + 1 + 1 + 1 + 1]? = some E := by
  simp only [heap_dr, heap_al, Array.getElem?_push, Array.size_push]
  repeat (rw [if_neg (by omega)])
  simp
theorem below5 (w : World) (A B C D E : Obj) : Below w.heap.size w (((((w.alloc A).alloc B).alloc C).alloc D).alloc E) :=
  ((((((Below.refl _ _).alloc (Nat.le_refl _) A).alloc (by simp) B).alloc (by simp; omega) C).alloc (by simp; omega) D).alloc (by simp; omega) E)
theorem new_fin {G : Nat → Prop} {w w1 W : World} {B n : Nat} {vn vu vq vg : Value} {e : Ending} (hw : ∀ k, G k → k < w.heap.size) (hb1 : Below w.heap.size w w1) (hb : Below w1.heap.size w1 W) (he : e = .returned (.tuple #[.pointer (some ⟨B, 0, none⟩), .int .i64 0])) (hn : n ≤ 12) (hB : w1.heap.size ≤ B)
    (h : ∃ bL bA bH bD, W.heap[B]? = some (.cells #[vn, vu, vq, vg, slv bL n, slv bA n, slv bH n, slv bD n, .slice none 0 0, .slice none 0 0] 64 (0, 0)) ∧ (w1.heap.size ≤ bL ∧ w1.heap.size ≤ bA ∧ w1.heap.size ≤ bH ∧ w1.heap.size ≤ bD ∧ bL ≠ bD) ∧
      W.heap[bL]? = some (.cells (madeCells #[.slice none 0 0] n) 92 (0, 0)) ∧ W.heap[bA]? = some (.cells (madeCells #[.slice none 0 0] n) 43 (0, 0)) ∧ W.heap[bH]? = some (.cells (madeCells #[.int .i64 0] n) 3 (0, 0)) ∧ W.heap[bD]? = some (.cells (madeCells #[.slice none 0 0] n) 92 (0, 0))) :
    ∃ B X, e = .returned (.tuple #[.pointer (some ⟨B, 0, none⟩), .int .i64 0]) ∧ Mem (fun k => G k ∨ X.foot B k) W B n vn vu vq vg X (M.new n) ∧ (∀ k, X.foot B k → w.heap.size ≤ k) ∧ Below w.heap.size w W := by
  obtain ⟨bL, bA, bH, bD, h0, ⟨l1, l2, l3, l4, hne⟩, h1, h2, h3, h4⟩ := h
  have hs := hb1.size
  have hbW := below_next hb1 hb
  obtain ⟨X, hM, hX⟩ := new_mem hw hbW h0 (by omega) (made_at h1 (by omega) (by omega)) (made_at h2 (by omega) (by omega)) (made_at h3 (by omega) (by omega)) (made_at h4 (by omega) (by omega)) hne
  exact ⟨B, X, he, hM, hX, hbW⟩

set_option maxHeartbeats 4000000 in
theorem new_any (G : Nat → Prop) (w : World) (vn vu vq vg : Value) (ns : List (List UInt8)) (us : List Nat) (qs : List Int) (gs : List Gr) (h : Cf w vn vu vq vg ns us qs gs) (hok : confOk ns us qs gs = true) (hn : us.length ≤ 12) (hw : ∀ k, G k → k < w.heap.size) :
    Calls Tryd.prog 8 #[cfv vn vu vq vg] w fun e w' => ∃ B X, e = .returned (.tuple #[.pointer (some ⟨B, 0, none⟩), .int .i64 0]) ∧ Mem (fun k => G k ∨ X.foot B k) w' B us.length vn vu vq vg X (M.new us.length) ∧ (∀ k, X.foot B k → w.heap.size ≤ k) ∧ Below w.heap.size w w' := by
  have HK := Lib.hid (fun W (hW : Below w.heap.size w W) => check5_det vn vu vq vg ns us qs gs W (h.below hW))
  rw [hok] at HK
  have HCB := Lib.hid (Cb.new w vn vu vq vg)
  have hb0 : Hid (Below w.heap.size w (w.alloc (.cells #[vn, vu, vq, vg] 27))) := (Below.refl _ _).alloc (Nat.le_refl _) _
  have HG := Lib.hid hw
  obtain ⟨ua, uc, hvu, -⟩ := h.u.shape
  obtain ⟨n, hn2⟩ : ∃ n, us.length = n := ⟨_, rfl⟩
  rw [hn2] at hvu hn ⊢
  subst hvu
  have hk1 := fun W => run_make_row' (P := Tryd.prog) 59 92 (.slice none 0 0) 24 Tryd.underlying59 infoEs rfl .i64 .i64 n (by omega) (by omega) W
  have hk2 := fun W => run_make_row' (P := Tryd.prog) 60 43 (.slice none 0 0) 24 Tryd.underlying60 infoRs rfl .i64 .i64 n (by omega) (by omega) W
  have hk3 := fun W => run_make_row' (P := Tryd.prog) 24 3 (.int .i64 0) 8 Tryd.underlying24 infoI2 rfl .i64 .i64 n (by omega) (by omega) W
  have st := Lib.hid (HK.out _ hb0.out)
  obtain ⟨c0, c1, c2, c3⟩ := HCB.out.cell
  clear h hok hn2 hw HK
  go_enter Tryd.func8, Tryd.ntmps8
  go_wp2_with fail
  refine st.out.mono ?_
  rintro e w1 ⟨rfl, hx⟩
  have HC1 := Lib.hid (HCB.out.later hx)
  have hb1 := Lib.hid (below_next hb0.out hx)
  have hsz1 := hx.size
  clear hx st c0 c1 c2 c3 HCB hb0
  obtain ⟨c0, c1, c2, c3⟩ := HC1.out.cell
  have hlt : w.heap.size < w1.heap.size := Nat.lt_of_lt_of_le (by simp) (show (w.alloc (.cells #[vn, .slice ua n uc, vq, vg] 27)).heap.size ≤ w1.heap.size from hsz1)
  have hal1 : ∀ A : Obj, Below w1.heap.size w1 (w1.alloc A) := fun A => (Below.refl _ _).alloc (Nat.le_refl _) _
  have hal2 : ∀ A B : Obj, Below w1.heap.size w1 ((w1.alloc A).alloc B) := fun A B => (hal1 A).alloc (hal1 A).size _
  have hal3 : ∀ A B C : Obj, Below w1.heap.size w1 (((w1.alloc A).alloc B).alloc C) := fun A B C => (hal2 A B).alloc (hal2 A B).size _
  have hal4 : ∀ A B C D : Obj, Below w1.heap.size w1 ((((w1.alloc A).alloc B).alloc C).alloc D) := fun A B C D => (hal3 A B C).alloc (hal3 A B C).size _
  have d10 : ∀ A, (w1.alloc A).cell? ⟨w.heap.size, 0, none⟩ = some (vn) := fun A => (Below.cell (B := w1.heap.size) (hal1 A) (p := ⟨w.heap.size, 0, none⟩) hlt).trans c0
  have d11 : ∀ A, (w1.alloc A).cell? ⟨w.heap.size, 1, none⟩ = some (.slice ua n uc) := fun A => (Below.cell (B := w1.heap.size) (hal1 A) (p := ⟨w.heap.size, 1, none⟩) hlt).trans c1
  have d12 : ∀ A, (w1.alloc A).cell? ⟨w.heap.size, 2, none⟩ = some (vq) := fun A => (Below.cell (B := w1.heap.size) (hal1 A) (p := ⟨w.heap.size, 2, none⟩) hlt).trans c2
  have d13 : ∀ A, (w1.alloc A).cell? ⟨w.heap.size, 3, none⟩ = some (vg) := fun A => (Below.cell (B := w1.heap.size) (hal1 A) (p := ⟨w.heap.size, 3, none⟩) hlt).trans c3
  have d20 : ∀ A B, ((w1.alloc A).alloc B).cell? ⟨w.heap.size, 0, none⟩ = some (vn) := fun A B => (Below.cell (B := w1.heap.size) (hal2 A B) (p := ⟨w.heap.size, 0, none⟩) hlt).trans c0
  have d21 : ∀ A B, ((w1.alloc A).alloc B).cell? ⟨w.heap.size, 1, none⟩ = some (.slice ua n uc) := fun A B => (Below.cell (B := w1.heap.size) (hal2 A B) (p := ⟨w.heap.size, 1, none⟩) hlt).trans c1
  have d22 : ∀ A B, ((w1.alloc A).alloc B).cell? ⟨w.heap.size, 2, none⟩ = some (vq) := fun A B => (Below.cell (B := w1.heap.size) (hal2 A B) (p := ⟨w.heap.size, 2, none⟩) hlt).trans c2
  have d23 : ∀ A B, ((w1.alloc A).alloc B).cell? ⟨w.heap.size, 3, none⟩ = some (vg) := fun A B => (Below.cell (B := w1.heap.size) (hal2 A B) (p := ⟨w.heap.size, 3, none⟩) hlt).trans c3
  have d30 : ∀ A B C, (((w1.alloc A).alloc B).alloc C).cell? ⟨w.heap.size, 0, none⟩ = some (vn) := fun A B C => (Below.cell (B := w1.heap.size) (hal3 A B C) (p := ⟨w.heap.size, 0, none⟩) hlt).trans c0
  have d31 : ∀ A B C, (((w1.alloc A).alloc B).alloc C).cell? ⟨w.heap.size, 1, none⟩ = some (.slice ua n uc) := fun A B C => (Below.cell (B := w1.heap.size) (hal3 A B C) (p := ⟨w.heap.size, 1, none⟩) hlt).trans c1
  have d32 : ∀ A B C, (((w1.alloc A).alloc B).alloc C).cell? ⟨w.heap.size, 2, none⟩ = some (vq) := fun A B C => (Below.cell (B := w1.heap.size) (hal3 A B C) (p := ⟨w.heap.size, 2, none⟩) hlt).trans c2
  have d33 : ∀ A B C, (((w1.alloc A).alloc B).alloc C).cell? ⟨w.heap.size, 3, none⟩ = some (vg) := fun A B C => (Below.cell (B := w1.heap.size) (hal3 A B C) (p := ⟨w.heap.size, 3, none⟩) hlt).trans c3
  have d40 : ∀ A B C D, ((((w1.alloc A).alloc B).alloc C).alloc D).cell? ⟨w.heap.size, 0, none⟩ = some (vn) := fun A B C D => (Below.cell (B := w1.heap.size) (hal4 A B C D) (p := ⟨w.heap.size, 0, none⟩) hlt).trans c0
  have d41 : ∀ A B C D, ((((w1.alloc A).alloc B).alloc C).alloc D).cell? ⟨w.heap.size, 1, none⟩ = some (.slice ua n uc) := fun A B C D => (Below.cell (B := w1.heap.size) (hal4 A B C D) (p := ⟨w.heap.size, 1, none⟩) hlt).trans c1
  have d42 : ∀ A B C D, ((((w1.alloc A).alloc B).alloc C).alloc D).cell? ⟨w.heap.size, 2, none⟩ = some (vq) := fun A B C D => (Below.cell (B := w1.heap.size) (hal4 A B C D) (p := ⟨w.heap.size, 2, none⟩) hlt).trans c2
  have d43 : ∀ A B C D, ((((w1.alloc A).alloc B).alloc C).alloc D).cell? ⟨w.heap.size, 3, none⟩ = some (vg) := fun A B C D => (Below.cell (B := w1.heap.size) (hal4 A B C D) (p := ⟨w.heap.size, 3, none⟩) hlt).trans c3
  go_wp2_with fail
  go_region
  all_goals (
    go_wp2_with fail
    go_ret2
    refine new_fin HG.out hb1.out (below5 _ _ _ _ _ _).drew rfl hn ?_ ?_
    · omega
    · refine ⟨_, _, _, _, at_new4 _ _ _ _ _ _, ?_, ?_, ?_, ?_, ?_⟩
      · refine ⟨?_, ?_, ?_, ?_, ?_⟩ <;> omega
      all_goals first | exact at_new0 _ _ _ _ _ _ | exact at_new1 _ _ _ _ _ _ | exact at_new2 _ _ _ _ _ _ | exact at_new3 _ _ _ _ _ _)
end Go.Proofs.YtmapmeacjpoaoaaDoor
