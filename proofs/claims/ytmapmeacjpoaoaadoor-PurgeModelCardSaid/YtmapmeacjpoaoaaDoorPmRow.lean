/- PurgeModel: the statement of its row, and its card: what sessions of a level are told by the model is what they are told, if that alone is done that can be noticed there. Conditions: none beyond the row's own. -/
import Derived.Test.YtmapmeacjpoaoaaDoorPm24
import Derived.Test.YtmapmeacjpoaoaaDoorCards
import Derived.Test.YtmapmeacjpoaoaaDoorTie
import Derived.Lib.LaidTab
namespace Go.Proofs.YtmapmeacjpoaoaaDoor.lawPurgeModel
open Go Go.ChangeShapes Go.WideShapes Go.ChangeAt Go.RowKit

theorem own : ownKnob Tryd.prog.godebug = none := by kernel_rfl
theorem gTab : Tryd.prog.globalNamed "math/bits.deBruijn64tab" = some 0 := by kernel_rfl
theorem gTabType : (Tryd.prog.globals[0]?).map (·.type) = some 128 := by kernel_rfl
theorem cellsTab : Tryd.prog.cellsOf 128 = 64 := by kernel_rfl
theorem cellsU8 : Tryd.prog.cellsOf 5 = 1 := by kernel_rfl
theorem laidOut : laidOutB Tryd.prog = true := by kernel_rfl

theorem table {W : World} (h : laidMetH Tryd.prog Rows.purgeModelRow.laid W) : DTab W := by
  have ht : Lib.TabIs Tryd.prog W "math/bits.deBruijn64tab" .u8 [0, 1, 56, 2, 57, 49, 28, 3, 61, 58, 42, 50, 38, 29, 17, 4, 62, 47, 59, 36, 45, 43, 51, 22, 53, 39, 33, 30, 24, 18, 12, 5, 63, 55, 48, 27, 60, 41, 37, 16, 46, 35, 44, 21, 52, 32, 23, 11, 54, 26, 40, 15, 34, 20, 31, 10, 25, 14, 19, 9, 13, 8, 7, 6] :=
    Lib.tabIs_of_head (rest := []) gTab gTabType Tryd.underlying128 Tryd.underlying5 cellsU8 cellsTab h
  intro j hj
  rw [ht.cell gTab j (by simpa using hj)]
  congr 2
  revert j
  decide

set_option maxRecDepth 100000 in
theorem contract (H : Type) (enc : TypeId × Value → H) (W : World) (base : Nat) (args : Array Value) (ds gs : List (DataW H)) (before : List MemPlace)
    (hval : ∀ (j : Nat) t v, Tryd.f3.params[j]? = some t → args[j]? = some v → Value.okWide Tryd.prog W .any base t v)
    (hW : DataW.Whole enc Tryd.prog Tryd.f3.params.toList Rows.purgeModelSpec.vars false W args.toList ds gs before) (hL : laidMetH Tryd.prog Rows.purgeModelRow.laid W) :
    Calls Tryd.prog 3 args W fun e W' => ∃ v, e = .returned v ∧ Rows.purgeModelSpec.post enc Tryd.prog Tryd.f3 false true false false W args v W' := by
  have hW' := hW
  obtain ⟨p, q, hA, hV, -, -, -⟩ := hW
  rw [Tryd.params3] at hA hval
  obtain ⟨rfl, rfl⟩ := trodVars_none hV
  obtain ⟨v0, vs0, d0, ds0, p0, q0, hargs, rfl, rfl, h0, r0⟩ := trodAll_cons hA
  obtain ⟨v1, vs1, d1, ds1, p1, q1, rfl, rfl, rfl, h1, r1⟩ := trodAll_cons r0
  obtain ⟨v2, vs2, d2, ds2, p2, q2, rfl, rfl, rfl, h2, r2⟩ := trodAll_cons r1
  obtain ⟨rfl, rfl, rfl⟩ := trodAll_nil r2
  obtain rfl : args = #[v0, v1, v2] := by cases args; simp_all
  obtain ⟨v00, v01, v02, v03, ns, us, qs, gs, rfl, hl0⟩ := open_conf Tryd.underlying27 (by kernel_rfl) (by kernel_rfl) Tryd.underlying22 Tryd.underlying9 (by kernel_rfl) Tryd.underlying23 Tryd.underlying53 (by kernel_rfl) Tryd.underlying24 Tryd.underlying3 (by kernel_rfl) Tryd.underlying25 Tryd.underlying74 (by kernel_rfl) (by kernel_rfl) Tryd.underlying3 Tryd.underlying3 Tryd.underlying3 (hval 0 _ v0 rfl rfl) h0
  obtain ⟨l1, hl1⟩ := open_ops_v Tryd.underlying28 Tryd.underlying33 (by kernel_rfl) (by kernel_rfl) Tryd.underlying3 Tryd.underlying3 Tryd.underlying3 Tryd.underlying3 Tryd.underlying9 Tryd.underlying9 Tryd.underlying9 Tryd.underlying3 Tryd.underlying3 Tryd.underlying3 Tryd.underlying22 Tryd.underlying9 (by kernel_rfl) (hval 1 _ v1 rfl rfl) h1
  obtain ⟨x2, rfl, -, rfl, wx2⟩ := open_int Tryd.underlying5 (hval 2 _ v2 rfl rfl) h2
  have hx2 : 0 ≤ x2 ∧ x2 ≤ 255 := by simpa [Lit.wf, IntKind.min, IntKind.max, IntKind.signed, IntKind.bits] using wx2
  obtain ⟨n2, rfl⟩ := Int.eq_ofNat_of_zero_le hx2.1
  refine (pumodel_any v00 v01 v02 v03 v1 ns us qs gs l1 n2 W hl0 hl1 (by omega) (table hL)).mono fun e W' ⟨he, hb⟩ => ⟨_, he, ?_⟩
  exact law_post (ds := [_, _, _]) (gs := []) laidOut rfl (by rw [Tryd.params3]; decide +kernel) rfl Tryd.underlying4 hW' hb rfl rfl rfl

noncomputable def laidWorld (os : Go.Os) : World :=
  { World.holding Tryd.prog os ⟨#[], #[], []⟩ with heap := (World.holding Tryd.prog os ⟨#[], #[], []⟩).heap.modify 0 fun
      | .cells _ t frozen => .cells #[.int .u8 0, .int .u8 1, .int .u8 56, .int .u8 2, .int .u8 57, .int .u8 49, .int .u8 28, .int .u8 3, .int .u8 61, .int .u8 58, .int .u8 42, .int .u8 50, .int .u8 38, .int .u8 29, .int .u8 17, .int .u8 4, .int .u8 62, .int .u8 47, .int .u8 59, .int .u8 36, .int .u8 45, .int .u8 43, .int .u8 51, .int .u8 22, .int .u8 53, .int .u8 39, .int .u8 33, .int .u8 30, .int .u8 24, .int .u8 18, .int .u8 12, .int .u8 5, .int .u8 63, .int .u8 55, .int .u8 48, .int .u8 27, .int .u8 60, .int .u8 41, .int .u8 37, .int .u8 16, .int .u8 46, .int .u8 35, .int .u8 44, .int .u8 21, .int .u8 52, .int .u8 32, .int .u8 23, .int .u8 11, .int .u8 54, .int .u8 26, .int .u8 40, .int .u8 15, .int .u8 34, .int .u8 20, .int .u8 31, .int .u8 10, .int .u8 25, .int .u8 14, .int .u8 19, .int .u8 9, .int .u8 13, .int .u8 8, .int .u8 7, .int .u8 6] t frozen
      | o => o }
theorem laid_met (os : Go.Os) : laidMet Tryd.prog Rows.purgeModelRow.laid ((laidWorld os).forCall (fun _ _ => 0) ⟨#[], #[cfv (.slice none 0 0) (.slice none 0 0) (.slice none 0 0) (.slice none 0 0), .slice none 0 0, .int .u8 0], []⟩).memory :=
  laidMet_of_run' 8 (by kernel_rfl) (by kernel_rfl)
theorem reads (os : Go.Os) {H : Type} (enc : TypeId × Value → H) : ∃ places, DataW.whole enc Tryd.prog ((laidWorld os).forCall (fun _ _ => 0) ⟨#[], #[cfv (.slice none 0 0) (.slice none 0 0) (.slice none 0 0) (.slice none 0 0), .slice none 0 0, .int .u8 0], []⟩).memory Tryd.f3.params.toList Rows.purgeModelSpec.vars false #[cfv (.slice none 0 0) (.slice none 0 0) (.slice none 0 0) (.slice none 0 0), Value.slice none 0 0, Value.int .u8 0].toList 8 = some ([.agg [.nil, .nil, .nil, .nil], .nil, .lit (.int .u8 0)], [], places) :=
  ⟨[], by kernel_rfl⟩

set_option maxRecDepth 100000 in
theorem lifted (os : Go.Os) (started : os.Started) (H : Type) (enc : TypeId × Value → H) (F : Stop.Interp) :
    ReturnsInHanded {} Tryd.checked os 3 .any ((OpenSpec.ofChange Rows.purgeModelSpec).preRow enc Tryd.prog Tryd.f3 Rows.purgeModelRow.domain false Rows.purgeModelRow.laid) (((OpenSpec.ofChange Rows.purgeModelSpec).at F).post enc Tryd.prog Tryd.f3 false true false false) := by
  obtain ⟨places, hx⟩ := reads os enc
  refine returnsInHanded_of_row (C := Tryd.checked) (s := OpenSpec.ofChange Rows.purgeModelSpec) own started (by kernel_rfl) Tryd.func3
    (witness_row_at (enc := enc) (C := Tryd.checked) false (laidWorld os) #[cfv (.slice none 0 0) (.slice none 0 0) (.slice none 0 0) (.slice none 0 0), .slice none 0 0, .int .u8 0] rfl (by kernel_rfl) (by kernel_rfl) (by kernel_rfl)
      (OpenSpec.preRow_of_cond 8 hx (by kernel_rfl) (fun k hk => by cases hk) (by kernel_rfl) (laid_met os))) ?_
  intro W base args ds gs before hval hW _ _ _ hL _ _
  exact contract H enc W base args ds gs before hval hW hL

theorem said : Rows.PurgeModelSaid :=
  OpenClaim.holds_of_cond 3 Tryd.f3 rfl rfl rfl rfl rfl rfl rfl ⟨rfl, rfl, rfl, rfl, rfl⟩ rfl rfl rfl rfl rfl (by kernel_rfl) Tryd.func3 (by kernel_rfl)
    (of_decide_eq_true (by kernel_rfl)) (by unfold Func.isWrapper; first | (rw [if_pos (by decide +kernel)]; kernel_rfl) | (rw [if_neg (by decide +kernel)]; exact ⟨rfl, rfl⟩))
    (fun os started H enc _ F => by rw [OpenClaim.pre_eq_preRow]; exact lifted os started H enc F)

theorem plain (f : FuncId) (fn : Func) (hf : Tryd.pinned.checked.prog.funcNamed "jalousie/jalousielaw32.PurgeModel" = some f) (hfn : Tryd.pinned.checked.prog.funcs[f]? = some fn) :
    false = Tryd.pinned.checked.prog.looks [] ∧ ∀ (j : Nat) t, fn.params[j]? = some t → Tryd.pinned.checked.prog.wantsStandIn t = false := by
  obtain rfl : f = 3 := Option.some.inj ((show Tryd.prog.funcNamed "jalousie/jalousielaw32.PurgeModel" = some 3 by kernel_rfl).symm.trans hf) |>.symm
  obtain rfl : fn = Tryd.f3 := (Option.some.inj (Tryd.func3.symm.trans hfn)).symm
  refine ⟨by kernel_rfl, fun j t ht => ?_⟩
  rw [Tryd.params3] at ht
  have hall : ∀ t ∈ Tryd.f3.params.toList, Tryd.prog.wantsStandIn t = false := by rw [Tryd.params3]; decide +kernel
  exact hall t (by rw [Tryd.params3]; exact Array.mem_toList_iff.2 (Array.mem_of_getElem? ht))

end Go.Proofs.YtmapmeacjpoaoaaDoor.lawPurgeModel
namespace Go.Proofs.YtmapmeacjpoaoaaDoor
open Go
theorem purgeModel_card : Rows.PurgeModelCardSaid :=
  Claim7.holds_tied_plain_at .later [] _ _ _ _ lawPurgeModel.said (fun _ h => by cases h) (by kernel_rfl) (fun _ h => by cases h) purgeModel_row_tie rfl ⟨rfl, rfl⟩ (by kernel_rfl) rfl lawPurgeModel.plain (by kernel_rfl)
#print axioms purgeModel_card
end Go.Proofs.YtmapmeacjpoaoaaDoor
