/- CrcParts returns true. -/
import Derived.Test.YtigahgkjidbhbaaDoorCrcAwake
import Derived.Test.YtigahgkjidbhbaaDoorMix
namespace Go.Proofs.YtigahgkjidbhbaaDoor
open Go Go.RowKit

set_option maxHeartbeats 1000000 in
theorem crcParts_any (v : Value) (l : List UInt8) (n : Nat) (hn : n < 65536) (w : World) (hb : Bs w v l) (ht : Tab w) :
    Calls Tryd.prog 4 #[v, .int .u16 n] w fun e w' => e = .returned (.bool true) ∧ Below w.heap.size w w' := by
  obtain ⟨-, ao, cap, rfl, -, -, -, -⟩ := id hb
  by_cases hl : 2000 < l.length
  · have hd : decide ((2000 : Int) < (l.length : Int)) = true := by simp; omega
    clear hl
    go_enter Tryd.func4, Tryd.ntmps4
    go_wp2_with fail
    refine (awake_any w ht).mono ?_
    rintro e w1 ⟨rfl, hb1⟩
    go_wp2_with fail
    go_ret
    exact ⟨rfl, hb1⟩
  · have hd : decide ((2000 : Int) < (l.length : Int)) = false := by simp; omega
    go_enter Tryd.func4, Tryd.ntmps4
    go_wp2_with fail
    refine (awake_any w ht).mono ?_
    rintro e w1 ⟨rfl, hb1⟩
    have HB1 := hb.below hb1
    have ht1 := ht.below hb1
    clear hb ht
    have hle : (l.length : Int) ≤ 2000 := by omega
    go_wp2_with fail
    refine (tag_any _ l w1 HB1 ht1 (by omega)).mono ?_
    rintro e w2 ⟨vt, rfl, hown, hbel⟩
    have hb2 := below_next hb1 hbel
    have HT2 := Bs.of_owns hown
    have HB2 := HB1.below hbel
    have ht2 := ht1.below hbel
    clear hown hbel HB1 ht1 hb1
    go_wp2_with fail
    refine (open_any vt _ w2 HT2 ht2 (by rw [C.tag_length]; omega)).mono ?_
    rintro e w3 ⟨vx, rfl, HX, hbel⟩
    have hb3 := below_next hb2 hbel
    have HB3 := HB2.below hbel
    have ht3 := ht2.below hbel
    rw [C.opened_tag] at HX
    rw [C.isTag_tag]
    clear hbel hb2 HB2 ht2 HT2
    go_wp2_with fail
    have hkk : (n : Int) % ((l.length : Int) + 1) = ((n % (l.length + 1) : Nat) : Int) := by rw [Int.natCast_emod, Int.natCast_add]; rfl
    have hkl : n % (l.length + 1) ≤ l.length := by have := Nat.mod_lt n (show 0 < l.length + 1 by omega); omega
    simp only [hkk]
    clear hkk
    generalize n % (l.length + 1) = k at *
    have hS0 := (Below.refl w3.heap.size w3).drew
    have HB4 := HB3.below hS0
    have HX4 := HX.below hS0
    have ht4 := ht3.below hS0
    have hb4 := below_next hb3 hS0
    clear hS0 HB3 HX ht3 hb3
    refine wp_region_mix ext_grow [(0, false), (1, false), (2, false), (3, false), (4, false), (5, false), (6, false), (7, false), (8, false), (9, false), (10, false), (11, false), (12, false), (13, false), (14, false), (15, false), (16, false), (17, false), (18, false), (19, false), (20, false), (21, false), (22, false), (23, false), (24, false), (25, false)] (by kernel_rfl) (by kernel_rfl) ?_
    generalize w3.drew = w4 at *
    have hconv : ∀ x : Later w4, (convert 22 9 vx).run Tryd.prog x.1 = .ok (.string (str l)) x.1 := fun x => run_str Tryd.underlying22 Tryd.underlying5 Tryd.underlying9 (HX4.below x.2)
    have hconv2 : ∀ x : Later w4, (convert 22 9 (.slice ao l.length cap)).run Tryd.prog x.1 = .ok (.string (str l)) x.1 := fun x => run_str Tryd.underlying22 Tryd.underlying5 Tryd.underlying9 (HB4.below x.2)
    obtain ⟨v1, hv1, hr1⟩ := run_btake (P := Tryd.prog) Tryd.underlying22 infoU8 HB4 .i64 k hkl
    obtain ⟨v2, hv2, hr2⟩ := run_bdrop (P := Tryd.prog) Tryd.underlying22 infoU8 HB4 .i64 k hkl
    have he1 : C.on (C.of (l.take k)) (l.drop k) = C.of l := by rw [C.on_of, List.take_append_drop]
    have he2 : C.of [] = 0 := rfl
    clear hl hn
    repeat (refine mix_soft rfl (fun K hK => ?_); go_simp; (first | (refine hK _ ?_; clear hK K) | (apply Exists.intro; refine ⟨fun x => ?_, hK _ ?_⟩; (first | (go_at_call 11; exact (of_any v1 (l.take k) _ (hv1.below x.2) (ht4.below x.2)).mono fun e w' ⟨h1, h2⟩ => ⟨h1, ext_of_eq h2⟩) | (go_at_call 11; exact (of_any (.slice none 0 0) [] _ (Bs.nil _) (ht4.below x.2)).mono fun e w' ⟨h1, h2⟩ => ⟨h1, ext_of_eq h2⟩) | (go_at_call 11; exact (of_any _ l _ (HB4.below x.2) (ht4.below x.2)).mono fun e w' ⟨h1, h2⟩ => ⟨h1, ext_of_eq h2⟩) | (go_at_call 13; exact (on_any _ (C.of_lt _) v2 (l.drop k) _ (hv2.below x.2) (ht4.below x.2)).mono fun e w' ⟨h1, h2⟩ => ⟨h1, ext_of_eq h2⟩)); clear hK K)))
    refine mix_done fun w6 hb6 => ?_
    have hfin := below_next hb4 hb6
    go_wp2_with fail
    go_ret
    exact ⟨rfl, hfin⟩

end Go.Proofs.YtigahgkjidbhbaaDoor
