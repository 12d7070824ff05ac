/- GrantsBytes returns true. -/
import Derived.Test.YtnfhhhcbgipmcaaDoorAwFour
import Derived.Test.YtnfhhhcbgipmcaaDoorGrRefPut
import Derived.Test.YtnfhhhcbgipmcaaDoorGrRefGet
namespace Go.Proofs.YtnfhhhcbgipmcaaDoor
open Go Go.RowKit

set_option maxRecDepth 4000 in
set_option maxHeartbeats 2000000 in
theorem grBytes_any (v : Value) (gs : List Gr) (vb : Value) (l : List UInt8) (w : World) (hv : Gs w v gs) (hvb : Bs w vb l) (ht : DTab w) :
    Calls Tryd.prog 10 #[v, vb] w fun e w' => e = .returned (.bool true) ∧ Below w.heap.size w w' := by
  obtain ⟨ao, cap, rfl, -⟩ := hv.shape
  obtain ⟨aob, capb, rfl, -⟩ := hvb.shape
  have hbig := hv.len
  have hbigb : l.length ≤ 9223372036854775807 := by
    obtain ⟨_, ao', cap', _, h1, h2, _⟩ := hvb
    unfold maxLen at h2
    omega
  have HA := Lib.hid (aw4_any w ht)
  have HV := Lib.hid hv
  have HB := Lib.hid hvb
  clear hv ht hvb
  by_cases h300 : 300 < gs.length
  · have d0 : decide ((300 : Int) < (gs.length : Int)) = true := by simp; omega
    clear h300
    go_enter Tryd.func10, Tryd.ntmps10
    go_wp2_with fail
    refine HA.out.mono ?_
    rintro e w1 ⟨rfl, hb1⟩
    go_wp2_with fail
    go_ret
    exact ⟨rfl, hb1⟩
  · have d0 : decide ((300 : Int) < (gs.length : Int)) = false := by simp; omega
    clear h300
    by_cases h900 : 900 < l.length
    · have d1 : decide ((900 : Int) < (l.length : Int)) = true := by simp; omega
      clear h900
      go_enter Tryd.func10, Tryd.ntmps10
      go_wp2_with fail
      refine HA.out.mono ?_
      rintro e w1 ⟨rfl, hb1⟩
      go_wp2_with fail
      go_ret
      exact ⟨rfl, hb1⟩
    · have d1 : decide ((900 : Int) < (l.length : Int)) = false := by simp; omega
      have hl : l.length ≤ 100000 := by omega
      have HG := Lib.hid (fun (W : World) (hW : Below w.heap.size w W) => gget_any _ l W (HB.out.below hW) hl)
      clear h900 hl
      go_enter Tryd.func10, Tryd.ntmps10
      go_wp2_with fail
      refine HA.out.mono ?_
      rintro e w1 ⟨rfl, hb1⟩
      clear HA
      go_wp2_with fail
      refine (HG.out _ hb1).mono ?_
      rintro e w2 ⟨v2, rfl, hg2, hb⟩
      have hb2 := below_next hb1 hb
      clear hb hb1 HG
      have hconv := run_str Tryd.underlying33 Tryd.underlying5 Tryd.underlying9 (HB.out.below hb2)
      go_wp2_with fail
      refine (refGget_any l w2).mono ?_
      rintro e w3 ⟨v3, rfl, hg3, hb⟩
      have hb3 := below_next hb2 hb
      have HG2 := Lib.hid (Three.Ss.below hg2 hb)
      have HG3 := Lib.hid hg3
      clear hb hb2 hconv hg2 hg3
      obtain ⟨ge, hge⟩ : ∃ x, L.ggetE l = x := ⟨_, rfl⟩
      rw [hge]
      clear hge
      obtain ⟨gl, hgl⟩ : ∃ x, L.gget l = x := ⟨_, rfl⟩
      rw [hgl] at HG2 HG3
      clear hgl
      have dge : (ge == ge) = true := by simp
      go_wp2_with fail
      refine wp_region_mix ext_grow [(0, false), (3, false), (1, true), (2, false), (4, false), (5, false), (6, false), (7, false), (8, false), (9, false), (10, false), (11, false), (12, false), (13, false), (14, false), (15, false), (16, false)] (by kernel_rfl) (by kernel_rfl) ?_
      have hb4 : Below w.heap.size w w3.drew := hb3.drew
      replace HG2 := Lib.hid (Three.Ss.below HG2.out (Below.refl _ _).drew)
      replace HG3 := Lib.hid (Three.Ss.below HG3.out (Below.refl _ _).drew)
      generalize w3.drew = w4 at *
      clear hb3
      have HP : Hid (∀ x : Later w4, Calls Tryd.prog 47 #[.slice ao gs.length cap] x.1 fun e w' => e = .returned (.string (str (L.gput gs))) ∧ Ext x.1 w') := fun x => refGput_any _ gs x.1 (Three.Ss.below HV.out (below_next hb4 x.2))
      have HQ : Hid (∀ x : Later w4, Calls Tryd.prog 46 #[.slice ao gs.length cap] x.1 fun e w' => ∃ v', e = .returned v' ∧ w'.ownsRow x.1.heap.size 5 1 v' (L.gput gs).length (byteCells (L.gput gs)) ∧ Below x.1.heap.size x.1 w') := fun x => gput_any _ gs x.1 (Three.Ss.below HV.out (below_next hb4 x.2))
      have HS : Hid (∀ x : Later w4, Calls Tryd.prog 48 #[v2, v3] x.1 fun e w' => e = .returned (.bool true) ∧ Ext x.1 w') := fun x => by
        have := gsame_any v2 v3 gl gl x.1 (Three.Ss.below HG2.out x.2) (Three.Ss.below HG3.out x.2)
        rw [show (gl == gl) = true by simp] at this
        exact this
      obtain ⟨pl, hpl⟩ : ∃ x, L.gput gs = x := ⟨_, rfl⟩
      rw [hpl] at HP HQ
      clear hpl HG2 HG3
      repeat (refine mix_soft rfl (fun K hK => ?_); go_simp; (first | (refine hK _ ?_; clear hK K) | (apply Exists.intro; refine ⟨fun x => ?_, hK _ ?_⟩; (first | (go_at_call 47; with_reducible exact HP.out x) | (go_at_call 48; with_reducible exact HS.out x)); clear hK K)))
      refine mix_loud rfl (fun K hK => ?_)
      go_simp
      intro x
      refine (HQ.out x).mono ?_
      rintro e w5 ⟨vt, rfl, hown, hbel⟩
      refine ⟨_, rfl, hbel, hK _ _ ?_⟩
      clear hK K HQ
      have hx5 : Below w4.heap.size w4 w5 := below_next x.2 hbel
      have hb5 := below_next hb4 hx5
      have HPB := Lib.hid (Bs.of_owns hown)
      have HSL : Hid (∀ y : Later w5, Calls Tryd.prog 48 #[v2, v3] y.1 fun e w' => e = .returned (.bool true) ∧ Ext y.1 w') := fun y => HS.out ⟨y.1, below_next hx5 y.2⟩
      have HPL : Hid (∀ y : Later w5, Calls Tryd.prog 47 #[.slice ao gs.length cap] y.1 fun e w' => e = .returned (.string (str pl)) ∧ Ext y.1 w') := fun y => HP.out ⟨y.1, below_next hx5 y.2⟩
      clear hown hbel hx5 x HS HP hb4
      have hconv2 : ∀ y : Later w5, (convert 33 9 vt).run Tryd.prog y.1 = .ok (.string (str pl)) y.1 := fun y => run_str Tryd.underlying33 Tryd.underlying5 Tryd.underlying9 (HPB.out.below y.2)
      generalize str pl = sp at *
      repeat (refine mix_soft rfl (fun K hK => ?_); go_simp; (first | (refine hK _ ?_; clear hK K) | (apply Exists.intro; refine ⟨fun x => ?_, hK _ ?_⟩; (first | (go_at_call 47; with_reducible exact HPL.out x) | (go_at_call 48; with_reducible exact HSL.out x)); clear hK K)))
      refine mix_done fun w6 hb6 => ?_
      have hfin := below_next hb5 hb6
      clear hconv2
      go_wp2_with fail
      go_ret
      exact ⟨rfl, hfin⟩
end Go.Proofs.YtnfhhhcbgipmcaaDoor
