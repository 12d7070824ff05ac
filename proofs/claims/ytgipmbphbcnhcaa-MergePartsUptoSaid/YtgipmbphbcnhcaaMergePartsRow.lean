/- MergeParts: the second form of its statement: all rows are told, each as often as it is there, in order; fewer are a front of more; put together in two goes they are the same. Conditions: none beyond the row's own. -/
import Derived.Test.YtgipmbphbcnhcaaRowR
import Derived.Test.YtgipmbphbcnhcaaMergePartsAny
import Derived.ProofKit
import Derived.OpenShut
import Derived.JoinedCond
namespace Go.Proofs.Ytgipmbphbcnhcaa.lawMergeParts
open Go Go.ChangeShapes Go.WideShapes Go.ChangeAt Go.RowKit

theorem own : ownKnob Try.prog.godebug = none := by kernel_rfl
theorem cellsRs : Try.prog.cellsOf 25 = 1 := by kernel_rfl
theorem cellsRow : Try.prog.cellsOf 29 = 3 := by kernel_rfl
theorem laidOut : laidOutB Try.prog = true := by kernel_rfl

theorem contract (H : Type) (enc : TypeId × Value → H) (W : World) (base : Nat) (args : Array Value) (ds gs : List (DataW H)) (before : List MemPlace)
    (hval : ∀ (j : Nat) t v, Try.f4.params[j]? = some t → args[j]? = some v → Value.okWide Try.prog W .any base t v)
    (hW : DataW.Whole enc Try.prog Try.f4.params.toList Rows.mergePartsSpec.vars false W args.toList ds gs before) (hk : Rows.uptoSmall H (ds ++ gs) = true) :
    Calls Try.prog 4 args W fun e W' => ∃ v, e = .returned v ∧ Rows.mergePartsSpec.post enc Try.prog Try.f4 false true false false W args v W' := by
  have hW' := hW
  obtain ⟨p, q, hA, hV, -, -, -⟩ := hW
  rw [Try.params4] at hA hval
  obtain ⟨rfl, rfl⟩ := trodVars_none hV
  obtain ⟨v0, vs0, d0, ds0, p0, q0, hargs, rfl, rfl, h0, r0⟩ := trodAll_cons hA
  obtain ⟨v1, vs1, d1, ds1, p1, q1, rfl, rfl, rfl, h1, r1⟩ := trodAll_cons r0
  obtain ⟨v2, vs2, d2, ds2, p2, q2, rfl, rfl, rfl, h2, r2⟩ := trodAll_cons r1
  obtain ⟨rfl, rfl, rfl⟩ := trodAll_nil r2
  obtain rfl : args = #[v0, v1, v2] := by cases args; simp_all
  obtain ⟨rows, hv, hbulk⟩ := open_vs Try.underlying22 cellsRs Try.underlying25 Try.underlying29 (by kernel_rfl) cellsRow Try.underlying9 Try.underlying3 Try.underlying9 (hval 0 _ v0 rfl rfl) h0
  have hsum : rows.length + rows.flatten.length ≤ 1048576 := by
    have h : Rows.uptoBulkAll (d0 :: [d1, d2]) ≤ 1048576 := of_decide_eq_true (by rw [List.append_nil] at hk; exact hk)
    simp only [Rows.uptoBulkAll] at h
    omega
  obtain ⟨x1, rfl, rfl, rfl, w1⟩ := open_int Try.underlying5 (hval 1 _ v1 rfl rfl) h1
  obtain ⟨y1, rfl, hy1⟩ : ∃ y : Nat, x1 = (y : Int) ∧ y < 256 := by
    have h : 0 ≤ x1 ∧ x1 ≤ 255 := by simpa [Lit.wf, IntKind.min, IntKind.max, IntKind.signed, IntKind.bits] using w1
    exact ⟨x1.toNat, by omega, by omega⟩
  obtain ⟨x2, rfl, rfl, rfl, w2⟩ := open_int Try.underlying5 (hval 2 _ v2 rfl rfl) h2
  obtain ⟨y2, rfl, hy2⟩ : ∃ y : Nat, x2 = (y : Int) ∧ y < 256 := by
    have h : 0 ≤ x2 ∧ x2 ≤ 255 := by simpa [Lit.wf, IntKind.min, IntKind.max, IntKind.signed, IntKind.bits] using w2
    exact ⟨x2.toNat, by omega, by omega⟩
  refine (mparts_any v0 rows y1 y2 W hv (by omega) hy1 hy2).mono fun e W' ⟨he, hb⟩ => ⟨_, he, ?_⟩
  exact law_post (ds := [_, _, _]) (gs := []) laidOut rfl (by rw [Try.params4]; decide +kernel) rfl Try.underlying4 hW' hb rfl rfl rfl

set_option maxRecDepth 100000 in
theorem lifted (os : Os) (started : os.Started) (H : Type) (enc : TypeId × Value → H) (F : Stop.Interp) :
    ReturnsInHanded {} Try.checked os 4 .any ((Rows.OpenSpec.upto Rows.mergePartsSpec).pre6 enc Try.prog Try.f4 Rows.mergePartsUptoRow.domain false) (((Rows.OpenSpec.upto Rows.mergePartsSpec).at F).post enc Try.prog Try.f4 false true false false) := by
  refine returnsInHanded_of_cond (C := Try.checked) (s := Rows.OpenSpec.upto Rows.mergePartsSpec) (k := Rows.uptoSmall) rfl own started (by kernel_rfl) Try.func4
    (OpenSpec.witness (enc := enc) (C := Try.checked) (s := Rows.OpenSpec.upto Rows.mergePartsSpec) (k := Rows.uptoSmall) rfl false ⟨#[], #[.slice none 0 0, .int .u8 0, .int .u8 0], []⟩ 8 (by kernel_rfl) (by kernel_rfl) (by kernel_rfl)
      (x := ([.nil, .lit (.int .u8 0), .lit (.int .u8 0)], [], [])) (by kernel_rfl) rfl (by kernel_rfl)) ?_
  intro W base args ds gs before hval hW _ hk _
  exact contract H enc W base args ds gs before hval hW hk
end Go.Proofs.Ytgipmbphbcnhcaa.lawMergeParts
namespace Go.Proofs.Ytgipmbphbcnhcaa
open Go
theorem mergeParts_upto : Rows.MergePartsUptoSaid :=
  OpenClaim.holds_of_cond 4 Try.f4 rfl rfl rfl rfl rfl rfl rfl ⟨rfl, rfl, rfl, rfl, rfl⟩ rfl rfl rfl rfl rfl (by kernel_rfl) Try.func4 (by kernel_rfl)
    (of_decide_eq_true (by kernel_rfl)) (by unfold Func.isWrapper; first | (rw [if_pos (by decide +kernel)]; kernel_rfl) | (rw [if_neg (by decide +kernel)]; exact ⟨rfl, rfl⟩))
    (fun os started H enc _ F => lawMergeParts.lifted os started H enc F)
#print axioms mergeParts_upto
end Go.Proofs.Ytgipmbphbcnhcaa
