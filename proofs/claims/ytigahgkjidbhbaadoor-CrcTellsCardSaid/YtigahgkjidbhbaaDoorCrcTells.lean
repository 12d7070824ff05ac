/- CrcTells returns true. -/
import Derived.Test.YtigahgkjidbhbaaDoorCrcAwake
import Derived.Test.YtigahgkjidbhbaaDoorMix
namespace Go.Proofs.YtigahgkjidbhbaaDoor
open Go Go.RowKit

theorem conv_later {w' : World} {base e n : Nat} {v : Value} {l : List UInt8} (h : w'.ownsRow base e 1 v n (byteCells l)) : ∀ w'', Below w'.heap.size w' w'' → (convert 22 9 v).run Tryd.prog w'' = .ok (.string (str l)) w'' :=
  fun _ hb => run_str Tryd.underlying22 Tryd.underlying5 Tryd.underlying9 ((Bs.of_owns h).below hb)

set_option maxHeartbeats 1000000 in
theorem crcTells_any (v : Value) (l : List UInt8) (s : Nat) (hs : s < 4294967296) (w : World) (hb : Bs w v l) (ht : Tab w) :
    Calls Tryd.prog 3 #[v, .int .u32 s] w fun e w' => e = .returned (.bool true) ∧ Below w.heap.size w w' := by
  obtain ⟨-, ao, cap, rfl, hlc, hcm, -, -⟩ := id hb
  by_cases hl : 2000 < l.length
  · have hd : decide ((2000 : Int) < (l.length : Int)) = true := by simp; omega
    clear hl
    go_enter Tryd.func3, Tryd.ntmps3
    go_wp2_with fail
    refine (awake_any w ht).mono ?_
    rintro e w1 ⟨rfl, hb1⟩
    go_wp2_with fail
    go_ret
    exact ⟨rfl, hb1⟩
  · have hd : decide ((2000 : Int) < (l.length : Int)) = false := by simp; omega
    go_enter Tryd.func3, Tryd.ntmps3
    go_wp2_with fail
    refine (awake_any w ht).mono ?_
    rintro e w1 ⟨rfl, hb1⟩
    have HB1 := hb.below hb1
    have hstr := run_str Tryd.underlying22 Tryd.underlying5 Tryd.underlying9 HB1
    go_wp2_with fail
    refine (open_any _ l w1 HB1 (ht.below hb1) (by omega)).mono ?_
    rintro e w2 ⟨v2, rfl, HO, hbel⟩
    have hb2 := below_next hb1 hbel
    have HB2 := HB1.below hbel
    clear hbel HB1 hb1 hstr
    go_wp2_with fail
    refine (refOpen_any l (by omega) w2).mono ?_
    rintro e w3 ⟨rfl, hbel⟩
    have hb3 := below_next hb2 hbel
    have HB3 := HB2.below hbel
    have HO3 := HO.below hbel
    clear hbel HB2 hb2 HO
    go_wp2_with fail
    have ht3 := ht.below hb3
    clear hb ht hd hlc hcm
    have hS0 := (Below.refl w3.heap.size w3).drew
    have HB4 := HB3.below hS0
    have HO4 := HO3.below hS0
    have ht4 := ht3.below hS0
    have hb4 := below_next hb3 hS0
    clear hS0 HB3 HO3 ht3 hb3
    refine wp_region_mix ext_grow [(0, false), (1, false), (2, false), (3, false), (4, false), (5, false), (6, false), (7, false), (8, false), (9, false), (10, false), (11, false), (12, false), (13, false), (14, false), (15, false), (18, false), (16, true), (17, false), (19, false), (20, false), (21, false), (22, false), (23, false), (24, false), (25, false), (26, false), (27, false), (28, false), (29, false), (30, false), (31, false), (32, false), (33, false)] (by kernel_rfl) (by kernel_rfl) ?_
    generalize w3.drew = w4 at *
    have hconv : ∀ x : Later w4, (convert 22 9 v2).run Tryd.prog x.1 = .ok (.string (str (C.opened l))) x.1 := fun x => run_str Tryd.underlying22 Tryd.underlying5 Tryd.underlying9 (HO4.below x.2)
    repeat (refine mix_soft rfl (fun K hK => ?_); go_simp; (first | (refine hK _ ?_; clear hK K) | (apply Exists.intro; refine ⟨fun x => ?_, hK _ ?_⟩; (first | (go_at_call 11; exact (of_any _ l _ (HB4.below x.2) (ht4.below x.2)).mono fun e w' ⟨h1, h2⟩ => ⟨h1, ext_of_eq h2⟩) | (go_at_call 12; exact (refOf_any l (by omega) _).mono fun e w' ⟨h1, h2⟩ => ⟨h1, ext_of_eq h2⟩) | (go_at_call 13; exact (on_any s hs _ l _ (HB4.below x.2) (ht4.below x.2)).mono fun e w' ⟨h1, h2⟩ => ⟨h1, ext_of_eq h2⟩) | (go_at_call 14; exact (refOn_any s hs l (by omega) _).mono fun e w' ⟨h1, h2⟩ => ⟨h1, ext_of_eq h2⟩)); clear hK K)))
    refine mix_loud rfl (fun K hK => ?_)
    go_simp
    intro x
    refine (tag_any _ l _ (HB4.below x.2) (ht4.below x.2) (by omega)).mono ?_
    rintro e w5 ⟨vt, rfl, hown, hbel⟩
    refine ⟨_, rfl, hbel, hK _ _ ?_⟩
    clear hK K hconv
    have hx5 := below_next x.2 hbel
    have HO5 := HO4.below hx5
    have HT5 := Bs.of_owns hown
    have hb5 := below_next hb4 hx5
    clear hown hbel hx5 HO4 HB4 ht4 hb4 x
    have hconv : ∀ x : Later w5, (convert 22 9 v2).run Tryd.prog x.1 = .ok (.string (str (C.opened l))) x.1 := fun x => run_str Tryd.underlying22 Tryd.underlying5 Tryd.underlying9 (HO5.below x.2)
    have hconv2 : ∀ x : Later w5, (convert 22 9 vt).run Tryd.prog x.1 = .ok (.string (str (C.tag l))) x.1 := fun x => run_str Tryd.underlying22 Tryd.underlying5 Tryd.underlying9 (HT5.below x.2)
    repeat (refine mix_soft rfl (fun K hK => ?_); go_simp; (first | (refine hK _ ?_; clear hK K) | (apply Exists.intro; refine ⟨fun x => ?_, hK _ ?_⟩; (first | (go_at_call 16; exact refTag_any l (by omega) _)); clear hK K)))
    refine mix_done fun w6 hb6 => ?_
    have hfin := below_next hb5 hb6
    go_wp2_with fail
    go_ret
    exact ⟨rfl, hfin⟩

end Go.Proofs.YtigahgkjidbhbaaDoor
