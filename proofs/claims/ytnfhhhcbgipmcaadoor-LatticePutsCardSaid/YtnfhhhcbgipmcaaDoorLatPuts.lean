/- LatticePuts returns true. -/
import Derived.Test.YtnfhhhcbgipmcaaDoorAwThree
import Derived.Test.YtnfhhhcbgipmcaaDoorPutsPlain
namespace Go.Proofs.YtnfhhhcbgipmcaaDoor
open Go Go.RowKit

set_option maxRecDepth 4000 in
set_option maxHeartbeats 1000000 in
theorem latPuts_any (v : Value) (us : List Nat) (c : Nat) (w : World) (hv : Us w v us) (hu : U64s us) (hc : c < 256) (ht : DTab w) :
    Calls Tryd.prog 8 #[v, .int .u8 c] w fun e w' => e = .returned (.bool true) ∧ Below w.heap.size w w' := by
  obtain ⟨ao, cap, rfl, -⟩ := hv.shape
  obtain ⟨i0, hi, hz0, hz1, hz2⟩ := info_parts infoU8
  have hbig := hv.len
  have HA := Lib.hid (aw3_any w ht)
  have HC := Lib.hid (fun (W : World) (hW : Below w.heap.size w W) => check_any _ us W (hv.below hW) hu (ht.below hW))
  have HP := Lib.hid (fun (W : World) (hW : Below w.heap.size w W) => put_any _ us W (hv.below hW) hu (ht.below hW))
  have HV := Lib.hid hv
  have HT := Lib.hid ht
  by_cases h8 : 8 < us.length
  · have d0 : decide ((8 : Int) < (us.length : Int)) = true := by simp; omega
    clear HC HP HV HT h8 hv hu ht
    go_enter Tryd.func8, Tryd.ntmps8
    go_wp2_with fail
    refine HA.out.mono ?_
    rintro e w1 ⟨rfl, hb1⟩
    go_wp2_with fail
    go_ret
    exact ⟨rfl, hb1⟩
  · have d0 : decide ((8 : Int) < (us.length : Int)) = false := by simp; omega
    cases hck : L.check us with
    | false =>
      clear HP HV HT hv hu ht h8
      go_enter Tryd.func8, Tryd.ntmps8
      go_wp2_with fail
      refine HA.out.mono ?_
      rintro e w1 ⟨rfl, hbr⟩
      have s := Lib.hid (HC.out _ hbr)
      rw [hck] at s
      clear hck HC HA
      go_wp2_with fail
      refine s.out.mono ?_
      rintro e w2 ⟨rfl, hx⟩
      replace hbr := below_next hbr hx
      clear hx s
      go_wp2_with fail
      go_ret
      exact ⟨rfl, hbr⟩
    | true =>
      have bk := L.back hu hck (UInt8.ofNat c)
      have hp1 := Lib.hid bk.get
      have hp2 := Lib.hid bk.getE
      have hp3 := Lib.hid bk.short
      have hp4 := Lib.hid bk.more
      have hp5 := Lib.hid bk.len
      have hp0 := Lib.hid bk.e
      clear hv hu ht bk
      go_enter Tryd.func8, Tryd.ntmps8
      go_wp2_with fail
      refine HA.out.mono ?_
      rintro e w1 ⟨rfl, hbr⟩
      have s := Lib.hid (HC.out _ hbr)
      rw [hck] at s
      clear hck HC HA
      go_wp2_with fail
      refine s.out.mono ?_
      rintro e w2 ⟨rfl, hx⟩
      replace hbr := below_next hbr hx
      clear hx s
      have s := Lib.hid (HP.out _ hbr)
      rw [hp0.out] at s
      clear hp0 HP
      go_wp2_with fail
      refine s.out.mono ?_
      rintro e w3 ⟨v3, rfl, hown, hx⟩
      replace hbr := below_next hbr hx
      have HB := Lib.hid (Bs.of_owns hown)
      clear hx s hown
      obtain ⟨pl, hpl⟩ : ∃ x, L.put us = x := ⟨_, rfl⟩
      rw [hpl] at hp1 hp2 hp3 hp4 hp5 HB
      clear hpl
      obtain ⟨aob, capb, rfl, -⟩ := HB.out.shape
      have hlen : pl.length ≤ 100 := by have := hp5.out; omega
      have hle : 8 * us.length ≤ pl.length := by have := hp5.out; omega
      obtain ⟨vt, hvt, hrun⟩ := run_btake (P := Tryd.prog) Tryd.underlying33 infoU8 HB.out .i64 (8 * us.length) hle
      have hsub : (pl.length : Int) - 1 = ((8 * us.length : Nat) : Int) := by have := hp5.out; omega
      rw [← hsub] at hrun
      have dlen : ((pl.length : Int) != 8 * (us.length : Int) + 1) = false := by rw [bne_eq_false_iff_eq]; have := hp5.out; omega
      have HVT := Lib.hid hvt
      clear hvt hsub hp5
      obtain ⟨N, hN⟩ : ∃ N, pl.length = N := ⟨_, rfl⟩
      have HN := Lib.hid hN
      rw [hN] at hlen hle hrun dlen HB ⊢
      clear hN
      go_wp2_with fail
      have s := Lib.hid (get_any _ pl w3 HB.out (by rw [HN.out]; omega) (HT.out.below hbr))
      rw [hp2.out, hp1.out] at s
      clear hp1 hp2
      refine s.out.mono ?_
      rintro e w4 ⟨v4, rfl, hu4, hx⟩
      replace hbr := below_next hbr hx
      replace HVT := Lib.hid (HVT.out.below hx)
      replace HB := Lib.hid (Bs.below HB.out hx)
      have HU := Lib.hid hu4
      clear hx s hu4
      have s := Lib.hid (get_any _ _ w4 HVT.out (by rw [List.length_take]; have := HN.out; omega) (HT.out.below hbr))
      rw [hp3.out] at s
      clear hp3 HVT
      go_wp2_with fail
      refine s.out.mono ?_
      rintro e w5 ⟨v5, rfl, -, hx⟩
      replace hbr := below_next hbr hx
      replace HB := Lib.hid (Bs.below HB.out hx)
      replace HU := Lib.hid (HU.out.below hx)
      clear hx s
      have HO := Lib.hid (World.ownsRow_nil w5 w5.heap.size 5 1)
      have HSL : Hid (Sl w5 1 N (.slice aob N capb) (byteCells pl)) := by
        have := HB.out
        unfold Bs at this
        rw [HN.out] at this
        exact this
      go_wp2_with (at_builtin; go_must (refine wpList_append_sl rfl _ _ 33 rfl w5.heap.size 5 (.int .u8 0) 1 1 Tryd.underlying33 infoU8 rfl (by decide) _ _ _ rfl HO.out _ N (byteCells pl) rfl HSL.out (byteCells_oneCell _) (by unfold maxLen; omega) (by omega) (Nat.le_refl _) ?_))
      intro v6 w6 hown6 hgrow _
      have hb6 : Below w5.heap.size w5 w6 := (Below.refl _ w5).grown hgrow (Nat.le_refl _) (ownBlock_ge HO.out)
      have HO6 : Hid (w6.ownsRow w5.heap.size 5 1 v6 N (byteCells pl)) := by
        unfold Hid
        exact hown6
      clear hown6 hgrow HO HSL
      have hbz := hb6.size
      go_wp2_with (at_builtin; go_must (refine wpList_append_own (w := w6.alloc (.cells #[.int .u8 (c : Int)] 5)) rfl _ _ 33 rfl w5.heap.size 5 i0 (.int .u8 0) 1 1 Tryd.underlying33 hi hz0 hz1 hz2 rfl (by decide) _ _ _ rfl (HO6.out.alloc _) ⟨w6.heap.size, 0, none⟩ 1 1 [.int .u8 (c : Int)] rfl rfl (cell_one_new _ _ _) (by simp [Value.oneCell']) (by unfold maxLen; omega) (by omega) (by simp; omega) ?_))
      intro v7 w7 hown7 hgrow _
      have hb7 : Below w5.heap.size w5 w7 := (hb6.alloc hb6.size _).grown hgrow (by simp; omega) (ownBlock_ge HO6.out)
      have HB7 : Hid (Bs w7 v7 (pl ++ [UInt8.ofNat c])) := by
        refine Bs.of_owns (base := w5.heap.size) (e := 5) (n := N + 1) ?_
        rw [← byteCells_append]
        have e : byteCells [UInt8.ofNat c] = [.int .u8 (c : Int)] := by
          unfold byteCells
          rw [List.map_cons, List.map_nil, UInt8.toNat_ofNat', Nat.mod_eq_of_lt hc]
        rw [e]
        exact hown7
      replace hbr := below_next hbr hb7
      replace HU := Lib.hid (HU.out.below hb7)
      clear hown7 hgrow hb6 HO6 HB hb7 hbz
      have s := Lib.hid (get_any _ _ w7 HB7.out (by rw [List.length_append, HN.out, List.length_singleton]; omega) (HT.out.below hbr))
      rw [hp4.out] at s
      clear hp4 HB7
      go_wp2_with fail
      refine s.out.mono ?_
      rintro e w8 ⟨v8, rfl, -, hx⟩
      replace hbr := below_next hbr hx
      replace HU := Lib.hid (HU.out.below hx)
      clear hx s
      have s := Lib.hid (same_any v4 _ us us w8 HU.out (HV.out.below hbr))
      rw [show (us == us) = true by simp] at s
      go_wp2_with fail
      refine s.out.mono ?_
      rintro e w9 ⟨rfl, hx⟩
      replace hbr := below_next hbr hx
      clear hx s
      go_wp2_with fail
      go_ret
      exact ⟨rfl, hbr⟩
end Go.Proofs.YtnfhhhcbgipmcaaDoor
