/- What lattice.Join and lattice.Meet return. -/
import Derived.Test.YtnfhhhcbgipmcaaDoorLeast
import Derived.Test.YtnfhhhcbgipmcaaDoorLat2
import Derived.Test.YtnfhhhcbgipmcaaDoorMix
namespace Go.Proofs.YtnfhhhcbgipmcaaDoor
open Go Go.RowKit Go.Shelf

theorem least_any (x : Nat) (hx : x < 18446744073709551616) (gf : Nat) (lb : Array Value) (eg : ∀ args w, (callFunc gf args).run Tryd.prog w = .ok (.enter gf args) w) (f : Nat → Nat → Bool) (w : World) (ht : DTab w)
    (hfl : ∀ W, Below w.heap.size w W → ∀ c d : Nat, Calls Tryd.prog gf (#[.int .i64 (c : Int), .int .i64 (d : Int)] ++ lb) W fun e w' => e = .returned (.bool (f c d)) ∧ W = w') :
    Calls Tryd.prog 53 #[.int .u64 x, .func (.func gf) #[] lb] w fun e w' => e = .returned (.int .i64 (L.leastOf x f)) ∧ Below w.heap.size w w' :=
  callsIn_wide.1 (least_in 0 x hx gf lb eg f w ht hfl)

theorem join1_any (v : Value) (us : List Nat) (b c d : Nat) (w : World) (hb : w.heap[b]? = some (.cells #[v] 22 (0, 0))) (hv : Us w v us) (hu : U64s us) :
    Calls Tryd.prog 55 #[.int .i64 (c : Int), .int .i64 (d : Int), .pointer (some ⟨b, 0, none⟩)] w fun e w' => e = .returned (.bool (L.leq us c d)) ∧ w = w' := by
  have hc := cell_of_one hb
  obtain ⟨ao, cap, rfl, -⟩ := Us.shape hv
  go_enter Tryd.func55, Tryd.ntmps55
  go_wp2_with fail
  refine (leq_any _ us c d w hv hu).mono ?_
  rintro e w' ⟨rfl, rfl⟩
  go_wp2_with fail
  go_ret
  exact ⟨rfl, rfl⟩
theorem meet1_any (v : Value) (us : List Nat) (b c d : Nat) (w : World) (hb : w.heap[b]? = some (.cells #[v] 22 (0, 0))) (hv : Us w v us) (hu : U64s us) :
    Calls Tryd.prog 56 #[.int .i64 (c : Int), .int .i64 (d : Int), .pointer (some ⟨b, 0, none⟩)] w fun e w' => e = .returned (.bool (L.leq us d c)) ∧ w = w' := by
  have hc := cell_of_one hb
  obtain ⟨ao, cap, rfl, -⟩ := Us.shape hv
  go_enter Tryd.func56, Tryd.ntmps56
  go_wp2_with fail
  refine (leq_any _ us d c w hv hu).mono ?_
  rintro e w' ⟨rfl, rfl⟩
  go_wp2_with fail
  go_ret
  exact ⟨rfl, rfl⟩

set_option maxHeartbeats 1000000 in
theorem join_any (v : Value) (us : List Nat) (a b : Int) (w : World) (hv : Us w v us) (hu : U64s us) (ht : DTab w) :
    Calls Tryd.prog 19 #[v, .int .i64 a, .int .i64 b] w fun e w' => e = .returned (.int .i64 (L.join us a b)) ∧ Below w.heap.size w w' := by
  have hbw := (Below.refl w.heap.size w).alloc (Nat.le_refl _) (.cells #[v] 22)
  have hv1 := hv.below hbw
  have ht1 := ht.below hbw
  have hbx := World.alloc_heap_new w (.cells #[v] 22)
  obtain ⟨ao, cap, rfl, -⟩ := Us.shape hv
  have hcx := cell_of_one hbx
  cases ha : L.lab us a with
  | false =>
    have hfin : Hid (L.join us a b = -1) := L.join_not_left ha b
    have HC := Lib.hid (label_any _ us a _ hv1)
    rw [ha] at HC
    clear ha hv1 hv
    go_enter Tryd.func19, Tryd.ntmps19
    go_wp2_with fail
    refine HC.out.mono ?_
    rintro e w' ⟨rfl, rfl⟩
    go_wp2_with fail
    go_ret
    exact ⟨ret_int hfin.out.symm, hbw⟩
  | true =>
    have HC := Lib.hid (label_any _ us a _ hv1)
    have HD := Lib.hid (label_any _ us b _ hv1)
    rw [ha] at HC
    cases hb : L.lab us b with
    | false =>
      have hfin : Hid (L.join us a b = -1) := L.join_not_right hb a
      rw [hb] at HD
      clear ha hb hv1 hv
      go_enter Tryd.func19, Tryd.ntmps19
      go_wp2_with fail
      refine HC.out.mono ?_
      rintro e w' ⟨rfl, rfl⟩
      go_wp2_with fail
      refine HD.out.mono ?_
      rintro e w' ⟨rfl, rfl⟩
      go_wp2_with fail
      go_ret
      exact ⟨ret_int hfin.out.symm, hbw⟩
    | true =>
      obtain ⟨h64, ha0, han⟩ := L.lab_iff.1 ha
      obtain ⟨-, hb0, hbn⟩ := L.lab_iff.1 hb
      have hfin := Lib.hid (L.join_least ha hb)
      rw [hb] at HD
      clear ha hb
      obtain ⟨an, rfl⟩ : ∃ n : Nat, a = n := ⟨a.toNat, by omega⟩
      obtain ⟨bn, rfl⟩ : ∃ n : Nat, b = n := ⟨b.toNat, by omega⟩
      simp only [Int.toNat_natCast] at hfin
      have h1 : an < us.length := by omega
      have h2 : bn < us.length := by omega
      have hx1 := L.within_lt h64 (us := us) an
      have hx2 := L.within_lt h64 (us := us) bn
      have hand := u64_and_nat (L.within us an) (L.within us bn) hx1 hx2
      have hlt := L.and_lt (x := L.within us an) (y := L.within us bn) hx1
      clear ha0 hb0 han hbn hv hx1 hx2 ht
      go_enter Tryd.func19, Tryd.ntmps19
      go_wp2_with fail
      refine HC.out.mono ?_
      rintro e w' ⟨rfl, rfl⟩
      go_wp2_with fail
      refine HD.out.mono ?_
      rintro e w' ⟨rfl, rfl⟩
      clear HC HD
      go_wp2_with fail
      obtain ⟨W1, hW1⟩ : ∃ W1, w.alloc (.cells #[Value.slice ao us.length cap] 22) = W1 := ⟨_, rfl⟩
      rw [hW1] at hbw hv1 ht1 hbx hcx ⊢
      obtain ⟨B, hB⟩ : ∃ B, w.heap.size = B := ⟨_, rfl⟩
      rw [hB] at hbx hcx ⊢
      have hBw : Below B w W1 := hB ▸ hbw
      clear hW1 hbw
      refine wp_region_mix ext_grow [(0, false), (1, false), (2, false), (3, false), (4, false), (5, false), (6, false), (7, false), (8, false), (9, false)] (by kernel_rfl) (by kernel_rfl) ?_
      have hS0 := (Below.refl W1.heap.size W1).drew
      have hv2 := hv1.below hS0
      have ht2 := ht1.below hS0
      have hbx2 := (hS0.block B (Array.getElem?_eq_some_iff.1 hbx).1).trans hbx
      have hBw2 : Below B w W1.drew := hBw.drew
      clear hS0 hv1 ht1 hbx hcx hBw
      have hBw2s : B ≤ W1.drew.heap.size := Nat.le_of_lt (Array.getElem?_eq_some_iff.1 hbx2).1
      generalize W1.drew = W2 at *
      clear W1
      have hcell : ∀ x : Later W2, x.1.cell? ⟨B, 0, none⟩ = some (.slice ao us.length cap) := fun x => cell_of_one ((x.2.block B (Array.getElem?_eq_some_iff.1 hbx2).1).trans hbx2)
      have HW : ∀ (k : Nat) (_ : k < us.length) (x : Later W2), Calls Tryd.prog 54 #[.slice ao us.length cap, .int .i64 k] x.1 fun e w' => e = .returned (.int .u64 (L.within us k : Nat)) ∧ Ext x.1 w' := fun k hk x => within_any _ us k x.1 (hv2.below x.2) hu h64 hk
      have HL : ∀ x : Later W2, Calls Tryd.prog 53 #[.int .u64 ((L.within us an &&& L.within us bn : Nat) : Int), .func (.func 55) #[] #[.pointer (some ⟨B, 0, none⟩)]] x.1 fun e w' => e = .returned (.int .i64 (L.join us an bn)) ∧ Ext x.1 w' := fun x => by
        have := least_any (L.within us an &&& L.within us bn) hlt 55 #[.pointer (some ⟨B, 0, none⟩)] (enters_of Tryd.func55 (by kernel_rfl) rfl) (fun c d => L.leq us c d) x.1 (ht2.below x.2)
          (fun W hW c d => join1_any _ us B c d W ((hW.block B (Nat.lt_of_lt_of_le (Array.getElem?_eq_some_iff.1 hbx2).1 x.2.size)).trans ((x.2.block B (Array.getElem?_eq_some_iff.1 hbx2).1).trans hbx2)) ((hv2.below x.2).below hW) hu)
        rwa [hfin.out] at this
      have HW1 := HW an h1
      have HW2 := HW bn h2
      clear HW
      generalize L.within us an &&& L.within us bn = xy at *
      generalize L.within us an = xa at *
      generalize L.within us bn = xb at *
      clear hlt hfin hbx2 hv2 ht2
      replace HW1 := Lib.hid HW1
      replace HW2 := Lib.hid HW2
      have HLL := Lib.hid HL
      clear HL h1 h2 hu h64
      repeat (refine mix_soft rfl (fun K hK => ?_); go_simp; (first | (refine hK _ ?_; clear hK K) | (apply Exists.intro; refine ⟨fun x => ?_, hK _ ?_⟩; (first | (go_at_call 54; with_reducible exact HW1.out x) | (go_at_call 54; with_reducible exact HW2.out x) | (go_at_call 53; with_reducible exact HLL.out x)); clear hK K)))
      refine mix_done fun w6 hb6 => ?_
      have hfin : Below B w w6 := hBw2.trans (hb6.mono hBw2s)
      clear hb6 hBw2
      go_wp2_with fail
      go_ret
      exact ⟨rfl, hB ▸ hfin⟩

set_option maxHeartbeats 1000000 in
theorem meet_any (v : Value) (us : List Nat) (a b : Int) (w : World) (hv : Us w v us) (hu : U64s us) (ht : DTab w) :
    Calls Tryd.prog 21 #[v, .int .i64 a, .int .i64 b] w fun e w' => e = .returned (.int .i64 (L.meet us a b)) ∧ Below w.heap.size w w' := by
  have hbw := (Below.refl w.heap.size w).alloc (Nat.le_refl _) (.cells #[v] 22)
  have hv1 := hv.below hbw
  have ht1 := ht.below hbw
  have hbx := World.alloc_heap_new w (.cells #[v] 22)
  obtain ⟨ao, cap, rfl, -⟩ := Us.shape hv
  have hfin := Lib.hid (L.meet_least (us := us) a b)
  have hx1 := L.down_lt us a
  have hx2 := L.down_lt us b
  have hand := u64_and_nat (L.down us a) (L.down us b) hx1 hx2
  have hlt := L.and_lt (x := L.down us a) (y := L.down us b) hx1
  clear hv hx1 hx2 ht
  go_enter Tryd.func21, Tryd.ntmps21
  go_wp2_with fail
  obtain ⟨W1, hW1⟩ : ∃ W1, w.alloc (.cells #[Value.slice ao us.length cap] 22) = W1 := ⟨_, rfl⟩
  rw [hW1] at hbw hv1 ht1 hbx ⊢
  obtain ⟨B, hB⟩ : ∃ B, w.heap.size = B := ⟨_, rfl⟩
  rw [hB] at hbx ⊢
  have hBw : Below B w W1 := hB ▸ hbw
  clear hW1 hbw
  refine wp_region_mix ext_grow [(0, false), (1, false), (2, false), (3, false), (4, false), (5, false), (6, false), (7, false), (8, false), (9, false)] (by kernel_rfl) (by kernel_rfl) ?_
  have hS0 := (Below.refl W1.heap.size W1).drew
  have hv2 := hv1.below hS0
  have ht2 := ht1.below hS0
  have hbx2 := (hS0.block B (Array.getElem?_eq_some_iff.1 hbx).1).trans hbx
  have hBw2 : Below B w W1.drew := hBw.drew
  clear hS0 hv1 ht1 hbx hBw
  have hBw2s : B ≤ W1.drew.heap.size := Nat.le_of_lt (Array.getElem?_eq_some_iff.1 hbx2).1
  generalize W1.drew = W2 at *
  clear W1
  have hcell : ∀ x : Later W2, x.1.cell? ⟨B, 0, none⟩ = some (.slice ao us.length cap) := fun x => cell_of_one ((x.2.block B (Array.getElem?_eq_some_iff.1 hbx2).1).trans hbx2)
  have HW1 : ∀ (x : Later W2), Calls Tryd.prog 17 #[.slice ao us.length cap, .int .i64 a] x.1 fun e w' => e = .returned (.int .u64 (L.down us a : Nat)) ∧ Ext x.1 w' := fun x => (down_any _ us a x.1 (hv2.below x.2) hu).mono fun e w' ⟨h1, h2⟩ => ⟨h1, ext_of_eq h2⟩
  have HW2 : ∀ (x : Later W2), Calls Tryd.prog 17 #[.slice ao us.length cap, .int .i64 b] x.1 fun e w' => e = .returned (.int .u64 (L.down us b : Nat)) ∧ Ext x.1 w' := fun x => (down_any _ us b x.1 (hv2.below x.2) hu).mono fun e w' ⟨h1, h2⟩ => ⟨h1, ext_of_eq h2⟩
  have HL : ∀ x : Later W2, Calls Tryd.prog 53 #[.int .u64 ((L.down us a &&& L.down us b : Nat) : Int), .func (.func 56) #[] #[.pointer (some ⟨B, 0, none⟩)]] x.1 fun e w' => e = .returned (.int .i64 (L.meet us a b)) ∧ Ext x.1 w' := fun x => by
    have := least_any (L.down us a &&& L.down us b) hlt 56 #[.pointer (some ⟨B, 0, none⟩)] (enters_of Tryd.func56 (by kernel_rfl) rfl) (fun c d => L.leq us d c) x.1 (ht2.below x.2)
      (fun W hW c d => meet1_any _ us B c d W ((hW.block B (Nat.lt_of_lt_of_le (Array.getElem?_eq_some_iff.1 hbx2).1 x.2.size)).trans ((x.2.block B (Array.getElem?_eq_some_iff.1 hbx2).1).trans hbx2)) ((hv2.below x.2).below hW) hu)
    rwa [hfin.out] at this
  generalize L.down us a &&& L.down us b = xy at *
  generalize L.down us a = xa at *
  generalize L.down us b = xb at *
  clear hlt hfin hbx2 hv2 ht2
  replace HW1 := Lib.hid HW1
  replace HW2 := Lib.hid HW2
  have HLL := Lib.hid HL
  clear HL hu
  repeat (refine mix_soft rfl (fun K hK => ?_); go_simp; (first | (refine hK _ ?_; clear hK K) | (apply Exists.intro; refine ⟨fun x => ?_, hK _ ?_⟩; (first | (go_at_call 17; with_reducible exact HW1.out x) | (go_at_call 17; with_reducible exact HW2.out x) | (go_at_call 53; with_reducible exact HLL.out x)); clear hK K)))
  refine mix_done fun w6 hb6 => ?_
  have hfin : Below B w w6 := hBw2.trans (hb6.mono hBw2s)
  clear hb6 hBw2
  go_wp2_with fail
  go_ret
  exact ⟨rfl, hB ▸ hfin⟩
end Go.Proofs.YtnfhhhcbgipmcaaDoor
