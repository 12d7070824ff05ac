/- What lattice.Close returns. -/
import Derived.Test.YtnfhhhcbgipmcaaDoorRefJoin
import Derived.Test.YtnfhhhcbgipmcaaDoorClosePlain
import Derived.Test.YtnfhhhcbgipmcaaDoorCheckPlain
import Derived.Test.YtnfhhhcbgipmcaaDoorMixTwo
import Derived.StillTailTactics
namespace Go.Proofs.YtnfhhhcbgipmcaaDoor
open Go Go.RowKit


theorem ownsRow.drewn {w w' : World} {base e sz n : Nat} {v : Value} {cs : List Value} (h : w.ownsRow base e sz v n cs) (hd : Two.Drew w w') : w'.ownsRow base e sz v n cs :=
  ownsRow.below h (hd.below _)

theorem own_block {w : World} {base n cap : Nat} {ao : Option Addr} {us : List Nat} (h : w.ownsRow base 25 1 (.slice ao n cap) n (u64Cells us)) (hn : 0 < n) : ∃ g, ao = some ⟨g, 0, none⟩ := by
  rcases h.2 with ⟨_, h0⟩ | ⟨g, cap', cur, e, _⟩
  · omega
  · exact ⟨g, (Value.slice.inj e).1⟩
theorem own_cell {w : World} {base n cap g : Nat} {us : List Nat} (h : w.ownsRow base 25 1 (.slice (some ⟨g, 0, none⟩) n cap) n (u64Cells us)) (j : Nat) (hj : j < us.length) : w.cell? ⟨g, j, none⟩ = some (.int .u64 ((us.getD j 0 : Nat) : Int)) := by
  have hl := h.1
  rw [u64Cells_length] at hl
  rw [h.cellAt j (by omega), u64Cells, List.getElem?_map, List.getElem?_eq_getElem hj, List.getD_eq_getElem?_getD, List.getElem?_eq_getElem hj]
  rfl
theorem own_store {w : World} {base n cap g : Nat} {us : List Nat} (h : w.ownsRow base 25 1 (.slice (some ⟨g, 0, none⟩) n cap) n (u64Cells us)) (j x : Nat) :
    (w.setCell ⟨g, j, none⟩ (.int .u64 (x : Int))).ownsRow base 25 1 (.slice (some ⟨g, 0, none⟩) n cap) n (u64Cells (us.set j x)) := by
  have := (h.stored j (.int .u64 (x : Int))).1
  rwa [show (u64Cells us).set j (.int .u64 (x : Int)) = u64Cells (us.set j x) by simp [u64Cells, List.map_set]] at this
theorem set_getD_self {l : List Nat} {k : Nat} (h : k < l.length) : l.set k (l.getD k 0) = l := by
  refine List.ext_getElem (by simp) fun i h1 h2 => ?_
  rw [List.getElem_set]
  split
  · subst_vars; simp [List.getD_eq_getElem?_getD, h]
  · rfl
theorem own_ge {w : World} {base n cap g : Nat} {cs : List Value} (h : w.ownsRow base 25 1 (.slice (some ⟨g, 0, none⟩) n cap) n cs) : base ≤ g := (h.lt g rfl).1

set_option maxRecDepth 4000 in
set_option maxHeartbeats 1000000 in
theorem close_any (v : Value) (us : List Nat) (w : World) (hv : Us w v us) (hu : U64s us) :
    Calls Tryd.prog 26 #[v] w fun e w' => ∃ v', e = .returned v' ∧ w'.ownsRow w.heap.size 25 1 v' (L.closeOr us).length (u64Cells (L.closeOr us)) ∧ Below w.heap.size w w' := by
  obtain ⟨ao, cap, rfl, -⟩ := hv.shape
  by_cases h64 : us.length ≤ 64
  · have hd : decide ((64 : Int) < (us.length : Int)) = false := by simp; omega
    have HFIN := Lib.hid (L.closeOr_short h64)
    have H64 := Lib.hid h64
    have HV := Lib.hid hv
    have HU := Lib.hid hu
    clear hv hu h64
    go_enter Tryd.func26, Tryd.ntmps26
    go_wp2_with fail
    go_loopw [3, 12] (fun o i wr => ∃ k : Nat, k ≤ us.length ∧ i = .int .i64 k ∧ Hid (wr.ownsRow w.heap.size 25 1 o k (u64Cells (L.startTo us k))) ∧ Below w.heap.size w wr) (fun _ i _ => us.length - (intOf i).toNat)
    case atStart => exact ⟨0, by omega, rfl, World.ownsRow_nil _ _ _ _, Below.refl _ _⟩
    case round =>
      obtain ⟨k, hk, rfl, hr, hbr⟩ := hrel
      by_cases hlt : k < us.length
      · have hs := Lib.hid (L.startTo_succ us k)
        have hor := L.startRow_or hlt
        have hk64 : k < 64 := by have := H64.out; omega
        have hk64' : (k : Int) < 64 := by omega
        have hwl := L.within_lt H64.out (us := us) k
        have ho := or_bits (L.within us k) k hwl hk64
        rw [hor] at ho
        go_wp2_with fail
        refine Two.wp_region_mix2 Two.drew_grow (below_grow w.heap.size) (fun a b h => h.below _) [(0, false), (1, false), (2, false), (3, false), (4, false), (5, false), (6, false), (7, true), (8, true), (9, false)] (by kernel_rfl) (by kernel_rfl) ?_
        have hr2 : Hid (wr.drew.ownsRow w.heap.size 25 1 u3 k (u64Cells (L.startTo us k))) := hr.out.drew
        have hbr2 : Below w.heap.size w wr.drew := hbr.drew
        clear hr hbr
        generalize wr.drew = W at *
        have HW : ∀ x : LaterR (Below w.heap.size) W, Calls Tryd.prog 54 #[.slice ao us.length cap, .int .i64 k] x.1 fun e w' => e = .returned (.int .u64 (L.within us k : Nat)) ∧ Two.Drew x.1 w' := fun x =>
          (within_drew _ us k x.1 (HV.out.below (hbr2.trans x.2)) HU.out H64.out hlt).mono fun e w' ⟨h1, n, h2⟩ => ⟨h1, h2 ▸ Two.drew_drewN _ n⟩
        replace HW := Lib.hid HW
        clear hor hwl
        generalize L.within us k = xa at *
        repeat (refine Two.mix2_soft rfl (fun K hK => ?_); go_simp; (first | (refine hK _ ?_; clear hK K) | (apply Exists.intro; refine ⟨fun x => ?_, hK _ ?_⟩; (first | (go_at_call 54; with_reducible exact HW.out x)); clear hK K)))
        rw [wrap_pow _ hk64, ho]
        have hrow := L.startRow_lt us k
        have hrow2 := pow_le64 H64.out
        generalize L.startRow us k = y at *
        clear ho HW
        refine Two.mix2_loud rfl (fun K hK => ?_)
        go_simp
        rintro ⟨W1, hW1⟩
        have hr3 : Hid (W1.ownsRow w.heap.size 25 1 u3 k (u64Cells (L.startTo us k))) := (ownsRow.drewn hr2.out hW1)
        have hbr3 : Below w.heap.size w W1 := hbr2.trans (hW1.below _)
        dsimp only
        clear hW1 hr2 hbr2
        refine ⟨(Below.refl _ _).alloc hbr3.size _, hK _ _ ?_⟩
        clear hK K
        refine Two.mix2_loud_plain rfl rfl fun K hK => ?_
        rintro ⟨W2, hW2⟩
        obtain ⟨i0, hi, hz0, hz1, hz2⟩ := info_parts infoU64
        have hbp : Below w.heap.size w (W1.alloc (.cells #[.int .u64 (y : Int)] 25)) := hbr3.alloc hbr3.size _
        have hcc := cell_one_new W1 (.int .u64 (y : Int)) 25
        have hr4 := ownsRow.drewn (World.ownsRow.alloc hr3.out (.cells #[.int .u64 (y : Int)] 25)) hW2
        refine Two.hOper_append_own _ _ 22 rfl w.heap.size 25 i0 (.int .u64 0) 1 8 Tryd.underlying22 hi hz0 hz1 hz2 rfl (by decide) _ _ _ rfl hr4 ⟨W1.heap.size, 0, none⟩ 1 1 [.int .u64 (y : Int)] rfl rfl (fun j u hj => (World.cell?_of_block (by rw [hW2.heap])).trans (hcc j u hj)) (by simp [Value.oneCell']) (by unfold maxLen; omega) (by omega) (by have := (hbp.trans (hW2.below _)).size; exact this) ?_
        intro v3 W3 hown3 hgrow3
        have hb3 : Below w.heap.size W2 W3 := (Below.refl _ W2).grown hgrow3 (hbp.trans (hW2.below _)).size (ownBlock_ge hr4)
        have hbw3 : Below w.heap.size w W3 := (hbp.trans (hW2.below _)).trans hb3
        have hown4 : Hid (W3.ownsRow w.heap.size 25 1 v3 (k + 1) (u64Cells (L.startTo us (k + 1)))) := by
          unfold Hid; rw [hs.out]; simpa [u64Cells] using hown3
        refine ⟨hb3, hK _ _ ?_⟩
        clear hK K hown3 hgrow3 hb3 hr4 hcc hbp hW2 hr3 hbr3 hs
        refine Two.mix2_soft rfl (fun K hK => ?_); go_simp
        refine hK _ ?_
        clear hK K
        refine Two.mix2_done fun W4 hW4 => ?_
        have hown5 : Hid (W4.ownsRow w.heap.size 25 1 v3 (k + 1) (u64Cells (L.startTo us (k + 1)))) := ownsRow.drewn hown4.out hW4
        have hbw4 := hbw3.trans (hW4.below _)
        clear hown4 hW4 hbw3
        go_wp2_with fail
        go_roundw
        case rel => exact ⟨k + 1, by omega, by go_num, hown5, hbw4⟩
        case measure => simp [intOf]; omega
      · obtain rfl : k = us.length := by omega
        have HN := Lib.hid (L.warAll_close us)
        have HM : Hid (∀ c, c ≤ us.length → L.Mid us (L.warAll (L.startTo us us.length) c)) := L.warAll_mid (L.start_mid us)
        have hl := L.startTo_length us us.length
        have HML : Hid (∀ c, (L.warAll (L.startTo us us.length) c).length = us.length) := fun c => (L.warAll_length _ c).trans hl
        have hr0 : Hid (wr.ownsRow w.heap.size 25 1 u3 us.length (u64Cells (L.warAll (L.startTo us us.length) 0))) := hr
        have hus := Us.of_owns hr.out
        obtain ⟨ao3, cap3, e3, -⟩ := hus.shape
        rw [hl] at e3
        subst e3
        clear hr hus hl hlt hk HV HU
        generalize L.startTo us us.length = m0 at *
        go_wp2_with fail
        go_loopw [27] (fun i wr => ∃ c : Nat, c ≤ us.length ∧ i = .int .i64 c ∧ Hid (wr.ownsRow w.heap.size 25 1 (.slice ao3 us.length cap3) us.length (u64Cells (L.warAll m0 c))) ∧ Below w.heap.size w wr) (fun i _ => us.length - (intOf i).toNat)
        case atStart => exact ⟨0, by omega, rfl, hr0, hbr⟩
        case round =>
          clear hr0 hbr
          obtain ⟨c, hc, rfl, hr, hbr⟩ := hrel
          by_cases hlt : c < us.length
          · have hl := HML.out c
            have hmid := HM.out c hc
            have hr0 : Hid (wr.ownsRow w.heap.size 25 1 (.slice ao3 us.length cap3) us.length (u64Cells (L.warTo (L.warAll m0 c) c 0))) := by unfold Hid; rw [L.warTo_zero]; exact hr.out
            clear hr
            have hc64 : (c : Int) < 64 := by have := H64.out; omega
            have hyl := hmid.small c hlt
            have hp64 := pow_le64 H64.out
            have hsm : Hid (∀ a, a < us.length → (L.warAll m0 c).getD a 0 < 2 ^ us.length) := hmid.small
            have HC : Hid (∀ k, k < us.length → L.warTo (L.warAll m0 c) c (k + 1) = (L.warTo (L.warAll m0 c) c k).set k (L.warRow (L.warAll m0 c) c ((L.warAll m0 c).getD k 0))) := fun k hk => L.warTo_succ (by rw [hl]; exact hk)
            have HH : Hid (∀ k, k < us.length → (L.warTo (L.warAll m0 c) c k).getD k 0 = (L.warAll m0 c).getD k 0) := fun k hk => L.warTo_here (by rw [hl]; exact hk)
            have HR : Hid (∀ k, k < us.length → (L.warTo (L.warAll m0 c) c k).getD c 0 = (L.warAll m0 c).getD c 0) := fun k hk => L.warTo_row (by rw [hl]; exact Nat.le_of_lt hk) (by rw [hl]; exact hlt)
            have HL : Hid (∀ k, (L.warTo (L.warAll m0 c) c k).length = us.length) := fun k => (L.warTo_length _ _ _).trans hl
            have HE : Hid (L.warTo (L.warAll m0 c) c us.length = L.warAll m0 (c + 1)) := by
              have := L.warTo_all (L.warAll m0 c) c; rw [hl] at this; exact this
            clear hmid hl
            generalize L.warAll m0 c = ms at *
            have HY : Hid (ms.getD c 0 = ms.getD c 0) := rfl
            go_wp2_with fail
            go_loopw [32] (fun i wr => ∃ a : Nat, a ≤ us.length ∧ i = .int .i64 a ∧ Hid (wr.ownsRow w.heap.size 25 1 (.slice ao3 us.length cap3) us.length (u64Cells (L.warTo ms c a))) ∧ Below w.heap.size w wr) (fun i _ => us.length - (intOf i).toNat)
            case atStart => exact ⟨0, by omega, rfl, hr0, hbr⟩
            case round =>
              clear hr0 hbr
              obtain ⟨a, ha, rfl, hr, hbr⟩ := hrel
              by_cases hal : a < us.length
              · obtain ⟨g, rfl⟩ := own_block hr.out (by omega)
                have hca := own_cell hr.out a (by rw [HL.out]; exact hal)
                have hcc := own_cell hr.out c (by rw [HL.out]; exact hlt)
                rw [HH.out a hal] at hca
                rw [HR.out a hal] at hcc
                have hfa := hr.out.frozenAt a
                have hxl := hsm.out a hal
                have hs := Lib.hid (HC.out a hal)
                obtain ⟨x, hx⟩ : ∃ x, ms.getD a 0 = x := ⟨_, rfl⟩
                obtain ⟨y, hy⟩ : ∃ y, ms.getD c 0 = y := ⟨_, rfl⟩
                have hgx : Hid ((L.warTo ms c a).getD a 0 = x) := (HH.out a hal).trans hx
                have hwr : Hid (L.warRow ms c x = if x.testBit c then x ||| y else x) := by unfold Hid L.warRow; rw [hy]
                rw [hx] at hca hxl hs
                rw [hy] at hcc hyl
                have hx64 : x < 18446744073709551616 := Nat.lt_of_lt_of_le hxl hp64
                have hy64 : y < 18446744073709551616 := Nat.lt_of_lt_of_le hyl hp64
                have e1 := bit_and x c hx64
                have e2 := bit_eq x c
                have ha64 : a < 64 := by have := H64.out; omega
                have hia : (a : Int) < (us.length : Int) := by omega
                have hic : (c : Int) < (us.length : Int) := by omega
                clear hx hy hxl hyl hp64
                cases hb : x.testBit c with
                | false =>
                  rw [hb] at e2 hwr
                  have hsame : Hid (L.warTo ms c (a + 1) = L.warTo ms c a) := by
                    unfold Hid
                    rw [hs.out, hwr.out, if_neg (by decide), ← hgx.out]
                    exact set_getD_self (by rw [HL.out]; exact hal)
                  have hr1 : Hid (wr.ownsRow w.heap.size 25 1 (.slice (some ⟨g, 0, none⟩) us.length cap3) us.length (u64Cells (L.warTo ms c (a + 1)))) := by
                    unfold Hid; rw [hsame.out]; exact hr.out
                  clear hb hs hwr hsame hr hgx
                  go_wp2_with fail
                  go_roundw
                  case rel => exact ⟨a + 1, by omega, by go_num, hr1, hbr⟩
                  case measure => simp [intOf]; omega
                | true =>
                  rw [hb, if_pos rfl] at hwr
                  rw [hb] at e2
                  have e3 := e1.trans (beq_iff_eq.1 e2)
                  rw [hwr.out] at hs
                  clear e1 e2
                  have ho := Lib.hid (u64_or_nat x y hx64 hy64)
                  clear hb hwr hgx
                  go_wp2_with fail
                  go_still_tail 10, (by kernel_rfl)
                  change wpList _ _ _ _ _ wr.drew
                  have hbr' : Below w.heap.size w wr.drew := hbr.drew
                  have hr' : Hid (wr.drew.ownsRow w.heap.size 25 1 (.slice (some ⟨g, 0, none⟩) us.length cap3) us.length (u64Cells (L.warTo ms c a))) := hr
                  clear hbr hr
                  change wr.drew.cell? _ = _ at hca
                  change wr.drew.frozen? _ = _ at hfa
                  generalize wr.drew = w3 at *
                  go_wp2_with fail
                  try rw [ho.out]
                  go_roundw
                  case rel =>
                    refine ⟨a + 1, by omega, by go_num, ?_, hbr'.setCell (own_ge hr'.out) _⟩
                    unfold Hid
                    rw [hs.out]
                    exact own_store hr'.out a _
                  case measure => simp [intOf]; omega
              · obtain rfl : a = us.length := by omega
                have hr1 : Hid (wr.ownsRow w.heap.size 25 1 (.slice ao3 us.length cap3) us.length (u64Cells (L.warAll m0 (c + 1)))) := by
                  unfold Hid; rw [← HE.out]; exact hr.out
                clear hal ha hr
                go_wp2_with fail
                go_roundw
                case rel => exact ⟨c + 1, by omega, by go_num, hr1, hbr⟩
                case measure => simp [intOf]; omega
          · obtain rfl : c = us.length := by omega
            have hr1 : Hid (wr.ownsRow w.heap.size 25 1 (.slice ao3 us.length cap3) (L.closeOr us).length (u64Cells (L.closeOr us))) := by
              unfold Hid; rw [HFIN.out, L.close_length, ← HN.out]; exact hr.out
            clear hlt hc hr
            go_wp2_with fail
            go_ret
            exact ⟨_, rfl, hr1.out, hbr⟩
  · have hd : decide ((64 : Int) < (us.length : Int)) = true := by simp; omega
    have HFIN := Lib.hid (L.closeOr_long h64)
    clear h64 hv hu
    go_enter Tryd.func26, Tryd.ntmps26
    go_wp2_with fail
    go_ret
    refine ⟨_, rfl, ?_, Below.refl _ _⟩
    rw [HFIN.out]
    exact World.ownsRow_nil _ _ _ _
end Go.Proofs.YtnfhhhcbgipmcaaDoor
