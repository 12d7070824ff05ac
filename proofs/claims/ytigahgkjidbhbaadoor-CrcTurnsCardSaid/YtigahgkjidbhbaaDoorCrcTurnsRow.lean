/- CrcTurns: the statement of its row, and its card: bytes that are other ones in up to 32 bits on end have another sum, and are not opened. Conditions: none beyond the row's own. -/
import Derived.Test.YtigahgkjidbhbaaDoorCards
import Derived.Test.YtigahgkjidbhbaaDoorTie
import Derived.Test.YtigahgkjidbhbaaDoorRow
import Derived.Test.YtigahgkjidbhbaaDoorCrcTurns
import Derived.Lib.LaidTab
namespace Go.Proofs.YtigahgkjidbhbaaDoor.lawCrcTurns
open Go Go.ChangeShapes Go.WideShapes Go.ChangeAt Go.RowKit

theorem own : ownKnob Tryd.prog.godebug = none := by kernel_rfl
theorem gTab : Tryd.prog.globalNamed "jalousie/crc.half" = some 0 := by kernel_rfl
theorem gTabType : (Tryd.prog.globals[0]?).map (·.type) = some 43 := by kernel_rfl
theorem cellsTab : Tryd.prog.cellsOf 43 = 16 := by kernel_rfl
theorem cells32 : Tryd.prog.cellsOf 23 = 1 := by kernel_rfl
theorem cells8 : Tryd.prog.cellsOf 5 = 1 := by kernel_rfl
theorem laidOut : laidOutB Tryd.prog = true := by kernel_rfl

theorem table {W : World} (h : laidMetH Tryd.prog Rows.crcTurnsRow.laid W) : Tab W := by
  have ht : Lib.TabIs Tryd.prog W "jalousie/crc.half" .u32 [0, 498536548, 997073096, 651767980, 1994146192, 1802195444, 1303535960, 1342533948, 3988292384, 4027552580, 3604390888, 3412177804, 2607071920, 2262029012, 2685067896, 3183342108] :=
    Lib.tabIs_of_head (rest := []) gTab gTabType Tryd.underlying43 Tryd.underlying23 cells32 cellsTab h
  intro j hj
  rw [ht.cell gTab j (by simpa using hj)]
  congr 2
  revert j
  decide

theorem contract (H : Type) (enc : TypeId × Value → H) (W : World) (base : Nat) (args : Array Value) (ds gs : List (DataW H)) (before : List MemPlace)
    (hval : ∀ (j : Nat) t v, Tryd.f5.params[j]? = some t → args[j]? = some v → Value.okWide Tryd.prog W .any base t v)
    (hW : DataW.Whole enc Tryd.prog Tryd.f5.params.toList Rows.crcTurnsSpec.vars false W args.toList ds gs before) (hL : laidMetH Tryd.prog Rows.crcTurnsRow.laid W) :
    Calls Tryd.prog 5 args W fun e W' => ∃ v, e = .returned v ∧ Rows.crcTurnsSpec.post enc Tryd.prog Tryd.f5 false true false false W args v W' := by
  have hW' := hW
  obtain ⟨p, q, hA, hV, -, -, -⟩ := hW
  rw [Tryd.params5] at hA hval
  obtain ⟨rfl, rfl⟩ := trodVars_none hV
  obtain ⟨v0, vs0, d0, ds0, p0, q0, hargs, rfl, rfl, h0, r0⟩ := trodAll_cons hA
  obtain ⟨v1, vs1, d1, ds1, p1, q1, rfl, rfl, rfl, h1, r1⟩ := trodAll_cons r0
  obtain ⟨v2, vs2, d2, ds2, p2, q2, rfl, rfl, rfl, h2, r2⟩ := trodAll_cons r1
  obtain ⟨rfl, rfl, rfl⟩ := trodAll_nil r2
  obtain rfl : args = #[v0, v1, v2] := by cases args; simp_all
  obtain ⟨l0, hl0, -⟩ := open_bytes Tryd.underlying22 Tryd.underlying5 cells8 (hval 0 _ v0 rfl rfl) h0
  obtain ⟨x1, rfl, -, rfl, wx1⟩ := open_int Tryd.underlying36 (hval 1 _ v1 rfl rfl) h1
  have hx1 : 0 ≤ x1 ∧ x1 ≤ 65535 := by simpa [Lit.wf, IntKind.min, IntKind.max, IntKind.signed, IntKind.bits] using wx1
  obtain ⟨n1, rfl⟩ := Int.eq_ofNat_of_zero_le hx1.1
  obtain ⟨x2, rfl, -, rfl, wx2⟩ := open_int Tryd.underlying23 (hval 2 _ v2 rfl rfl) h2
  have hx2 : 0 ≤ x2 ∧ x2 ≤ 4294967295 := by simpa [Lit.wf, IntKind.min, IntKind.max, IntKind.signed, IntKind.bits] using wx2
  obtain ⟨n2, rfl⟩ := Int.eq_ofNat_of_zero_le hx2.1
  refine (crcTurns_any v0 l0 n1 n2 (by omega) (by omega) W hl0 (table hL)).mono fun e W' ⟨he, hb⟩ => ⟨_, he, ?_⟩
  exact law_post (ds := [_, _, _]) (gs := []) laidOut rfl (by rw [Tryd.params5]; decide +kernel) rfl Tryd.underlying4 hW' hb rfl rfl rfl

noncomputable def laidWorld (os : Os) : World :=
  { World.holding Tryd.prog os ⟨#[], #[], []⟩ with heap := (World.holding Tryd.prog os ⟨#[], #[], []⟩).heap.modify 0 fun
      | .cells _ t frozen => .cells #[.int .u32 0, .int .u32 498536548, .int .u32 997073096, .int .u32 651767980, .int .u32 1994146192, .int .u32 1802195444, .int .u32 1303535960, .int .u32 1342533948, .int .u32 3988292384, .int .u32 4027552580, .int .u32 3604390888, .int .u32 3412177804, .int .u32 2607071920, .int .u32 2262029012, .int .u32 2685067896, .int .u32 3183342108] t frozen
      | o => o }
theorem laid_met (os : Os) : laidMet Tryd.prog Rows.crcTurnsRow.laid ((laidWorld os).forCall (fun _ _ => 0) ⟨#[], #[.slice none 0 0, .int .u16 0, .int .u32 0], []⟩).memory :=
  laidMet_of_run' 8 (by kernel_rfl) (by kernel_rfl)
theorem reads (os : Os) {H : Type} (enc : TypeId × Value → H) : ∃ places, DataW.whole enc Tryd.prog ((laidWorld os).forCall (fun _ _ => 0) ⟨#[], #[.slice none 0 0, .int .u16 0, .int .u32 0], []⟩).memory Tryd.f5.params.toList Rows.crcTurnsSpec.vars false #[Value.slice none 0 0, Value.int .u16 0, Value.int .u32 0].toList 8 = some ([.nil, .lit (.int .u16 0), .lit (.int .u32 0)], [], places) :=
  ⟨[], by kernel_rfl⟩

set_option maxRecDepth 100000 in
theorem lifted (os : Os) (started : os.Started) (H : Type) (enc : TypeId × Value → H) (F : Stop.Interp) :
    ReturnsInHanded {} Tryd.checked os 5 .any ((OpenSpec.ofChange Rows.crcTurnsSpec).preRow enc Tryd.prog Tryd.f5 Rows.crcTurnsRow.domain false Rows.crcTurnsRow.laid) (((OpenSpec.ofChange Rows.crcTurnsSpec).at F).post enc Tryd.prog Tryd.f5 false true false false) := by
  obtain ⟨places, hx⟩ := reads os enc
  refine returnsInHanded_of_row (C := Tryd.checked) (s := OpenSpec.ofChange Rows.crcTurnsSpec) own started (by kernel_rfl) Tryd.func5
    (witness_row_at (enc := enc) (C := Tryd.checked) false (laidWorld os) #[.slice none 0 0, .int .u16 0, .int .u32 0] rfl (by kernel_rfl) (by kernel_rfl) (by kernel_rfl)
      (OpenSpec.preRow_of_cond 8 hx (by kernel_rfl) (fun k hk => by cases hk) (by kernel_rfl) (laid_met os))) ?_
  intro W base args ds gs before hval hW _ _ _ hL _ _
  exact contract H enc W base args ds gs before hval hW hL

theorem said : Rows.CrcTurnsSaid :=
  OpenClaim.holds_of_cond 5 Tryd.f5 rfl rfl rfl rfl rfl rfl rfl ⟨rfl, rfl, rfl, rfl, rfl⟩ rfl rfl rfl rfl rfl (by kernel_rfl) Tryd.func5 (by kernel_rfl)
    (of_decide_eq_true (by kernel_rfl)) (by unfold Func.isWrapper; first | (rw [if_pos (by decide +kernel)]; kernel_rfl) | (rw [if_neg (by decide +kernel)]; exact ⟨rfl, rfl⟩))
    (fun os started H enc _ F => by rw [OpenClaim.pre_eq_preRow]; exact lifted os started H enc F)

theorem plain (f : FuncId) (fn : Func) (hf : Tryd.pinned.checked.prog.funcNamed "jalousie/jalousielaw02.CrcTurns" = some f) (hfn : Tryd.pinned.checked.prog.funcs[f]? = some fn) :
    false = Tryd.pinned.checked.prog.looks [] ∧ ∀ (j : Nat) t, fn.params[j]? = some t → Tryd.pinned.checked.prog.wantsStandIn t = false := by
  obtain rfl : f = 5 := Option.some.inj ((show Tryd.prog.funcNamed "jalousie/jalousielaw02.CrcTurns" = some 5 by kernel_rfl).symm.trans hf) |>.symm
  obtain rfl : fn = Tryd.f5 := (Option.some.inj (Tryd.func5.symm.trans hfn)).symm
  refine ⟨by kernel_rfl, fun j t ht => ?_⟩
  rw [Tryd.params5] at ht
  have hall : ∀ t ∈ Tryd.f5.params.toList, Tryd.prog.wantsStandIn t = false := by rw [Tryd.params5]; decide +kernel
  exact hall t (by rw [Tryd.params5]; exact Array.mem_toList_iff.2 (Array.mem_of_getElem? ht))

end Go.Proofs.YtigahgkjidbhbaaDoor.lawCrcTurns
namespace Go.Proofs.YtigahgkjidbhbaaDoor
open Go
theorem crcTurns_card : Rows.CrcTurnsCardSaid :=
  Claim7.holds_tied_plain_at .later [] _ _ _ _ lawCrcTurns.said (fun _ h => by cases h) (by kernel_rfl) (fun _ h => by cases h) crcTurns_row_tie rfl ⟨rfl, rfl⟩ (by kernel_rfl) rfl lawCrcTurns.plain (by kernel_rfl)
#print axioms crcTurns_card
end Go.Proofs.YtigahgkjidbhbaaDoor
