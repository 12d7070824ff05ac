/- CrcTells returns true. -/
import Derived.Test.YtigahgkjidbhbaaDoorCrcAwake
import Derived.Deep.RegionHeld3
namespace Go.Proofs.YtigahgkjidbhbaaDoor
open Go Go.RowKit

theorem conv_later {w' : World} {base e n : Nat} {v : Value} {l : List UInt8} (h : w'.ownsRow base e 1 v n (byteCells l)) : ∀ w'', Below w'.heap.size w' w'' → (convert 22 9 v).run Tryd.prog w'' = .ok (.string (str l)) w'' :=
  fun _ hb => run_str Tryd.underlying22 Tryd.underlying5 Tryd.underlying9 ((Bs.of_owns h).below hb)

set_option maxHeartbeats 1000000 in
theorem crcTells_any (v : Value) (l : List UInt8) (s : Nat) (hs : s < 4294967296) (w : World) (hb : Bs w v l) (ht : Tab w) :
    Calls Tryd.prog 3 #[v, .int .u32 s] w fun e w' => e = .returned (.bool true) ∧ Below w.heap.size w w' := by
  obtain ⟨-, ao, cap, rfl, hlc, hcm, -, -⟩ := id hb
  by_cases hl : 2000 < l.length
  · have hd : decide ((2000 : Int) < (l.length : Int)) = true := by simp; omega
    clear hl
    go_enter Tryd.func3, Tryd.ntmps3
    go_wp2_with fail
    refine (awake_any w ht).mono ?_
    rintro e w1 ⟨rfl, hb1⟩
    go_wp2_with fail
    go_ret
    exact ⟨rfl, hb1⟩
  · have hd : decide ((2000 : Int) < (l.length : Int)) = false := by simp; omega
    go_enter Tryd.func3, Tryd.ntmps3
    go_wp2_with fail
    refine (awake_any w ht).mono ?_
    rintro e w1 ⟨rfl, hb1⟩
    have HB1 := hb.below hb1
    have hstr := run_str Tryd.underlying22 Tryd.underlying5 Tryd.underlying9 HB1
    go_wp2_with fail
    refine (open_any _ l w1 HB1 (ht.below hb1) (by omega)).mono ?_
    rintro e w2 ⟨v2, rfl, HO, hbel⟩
    have hb2 := below_next hb1 hbel
    have HB2 := HB1.below hbel
    clear hbel HB1 hb1 hstr
    go_wp2_with fail
    refine (refOpen_any l (by omega) w2).mono ?_
    rintro e w3 ⟨rfl, hbel⟩
    have hb3 := below_next hb2 hbel
    have HB3 := HB2.below hbel
    have HO3 := HO.below hbel
    clear hbel HB2 hb2 HO
    go_wp2_with fail
    have ht3 := ht.below hb3
    clear hb ht hd hlc hcm
    have hconv : ∀ w', Below w3.heap.size w3 w' → (convert 22 9 v2).run Tryd.prog w' = .ok (.string (str (C.opened l))) w' := fun w' h => run_str Tryd.underlying22 Tryd.underlying5 Tryd.underlying9 (HO3.below h)
    have HC := Lib.hid hconv
    clear hconv
    go_region_held3 (fun w' => Below w3.heap.size w3 w' ∧ (convert 22 9 v2).run Tryd.prog w' = .ok (.string (str (C.opened l))) w') (first | assumption | exact ⟨(Below.refl _ _).drew, HC.out _ (Below.refl _ _).drew⟩)
      (first | (go_at_call 11; refine (of_any _ l _ (HB3.below (‹Below w3.heap.size w3 _ ∧ _›).1) (ht3.below (‹Below w3.heap.size w3 _ ∧ _›).1)).mono ?_; rintro e w' ⟨rfl, rfl⟩)
              | (go_at_call 12; refine (refOf_any l (by omega) _).mono ?_; rintro e w' ⟨rfl, rfl⟩)
              | (go_at_call 13; refine (on_any s hs _ l _ (HB3.below (‹Below w3.heap.size w3 _ ∧ _›).1) (ht3.below (‹Below w3.heap.size w3 _ ∧ _›).1)).mono ?_; rintro e w' ⟨rfl, rfl⟩)
              | (go_at_call 14; refine (refOn_any s hs l (by omega) _).mono ?_; rintro e w' ⟨rfl, rfl⟩)
              | (go_at_call 15; refine (tag_any _ l _ (HB3.below (‹Below w3.heap.size w3 _ ∧ _›).1) (ht3.below (‹Below w3.heap.size w3 _ ∧ _›).1) (by omega)).mono ?_; rintro e w' ⟨vt, rfl, hown, hbel⟩; have hS := below_next (‹Below w3.heap.size w3 _ ∧ _›).1 hbel; have hS' := And.intro hS (HC.out _ hS); have hcv := conv_later hown; have hrf := Below.refl w'.heap.size w'; clear hown hbel hS)
              | (go_at_call 16; refine (refTag_any l (by omega) _).mono ?_; rintro e w' ⟨rfl, hbel⟩; have hS := below_next (‹Below w3.heap.size w3 _ ∧ _›).1 hbel; have hS' := And.intro hS (HC.out _ hS); clear hS))
    all_goals
      have hS := (‹Below w3.heap.size w3 _ ∧ _›).1
      have hfin := below_next hb3 hS
      go_wp2_with fail
      go_ret
      exact ⟨rfl, hfin⟩

end Go.Proofs.YtigahgkjidbhbaaDoor
