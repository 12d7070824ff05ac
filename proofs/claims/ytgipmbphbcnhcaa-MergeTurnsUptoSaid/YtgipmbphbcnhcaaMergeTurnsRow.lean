/- MergeTurns: the second form of its statement: rows of which no two have one key and label may come in any order. Conditions: none beyond the row's own. -/
import Derived.Test.YtgipmbphbcnhcaaRowR
import Derived.Test.YtgipmbphbcnhcaaMergeTurnsAny
import Derived.ProofKit
import Derived.OpenShut
import Derived.JoinedCond
namespace Go.Proofs.Ytgipmbphbcnhcaa.lawMergeTurns
open Go Go.ChangeShapes Go.WideShapes Go.ChangeAt Go.RowKit

theorem own : ownKnob Try.prog.godebug = none := by kernel_rfl
theorem cellsRs : Try.prog.cellsOf 25 = 1 := by kernel_rfl
theorem cellsRow : Try.prog.cellsOf 29 = 3 := by kernel_rfl
theorem laidOut : laidOutB Try.prog = true := by kernel_rfl

theorem contract (H : Type) (enc : TypeId × Value → H) (W : World) (base : Nat) (args : Array Value) (ds gs : List (DataW H)) (before : List MemPlace)
    (hval : ∀ (j : Nat) t v, Try.f5.params[j]? = some t → args[j]? = some v → Value.okWide Try.prog W .any base t v)
    (hW : DataW.Whole enc Try.prog Try.f5.params.toList Rows.mergeTurnsSpec.vars false W args.toList ds gs before) (hk : Rows.uptoSmall H (ds ++ gs) = true) :
    Calls Try.prog 5 args W fun e W' => ∃ v, e = .returned v ∧ Rows.mergeTurnsSpec.post enc Try.prog Try.f5 false true false false W args v W' := by
  have hW' := hW
  obtain ⟨p, q, hA, hV, -, -, -⟩ := hW
  rw [Try.params5] at hA hval
  obtain ⟨rfl, rfl⟩ := trodVars_none hV
  obtain ⟨v0, vs0, d0, ds0, p0, q0, hargs, rfl, rfl, h0, r0⟩ := trodAll_cons hA
  obtain ⟨rfl, rfl, rfl⟩ := trodAll_nil r0
  obtain rfl : args = #[v0] := by cases args; simp_all
  obtain ⟨rows, hv, hbulk⟩ := open_vs Try.underlying22 cellsRs Try.underlying25 Try.underlying29 (by kernel_rfl) cellsRow Try.underlying9 Try.underlying3 Try.underlying9 (hval 0 _ v0 rfl rfl) h0
  have hsum : rows.length + rows.flatten.length ≤ 1048576 := by
    have h : Rows.uptoBulkAll (d0 :: []) ≤ 1048576 := of_decide_eq_true (by rw [List.append_nil] at hk; exact hk)
    simp only [Rows.uptoBulkAll] at h
    omega
  refine (mturns_any v0 rows W hv (by omega)).mono fun e W' ⟨he, hb⟩ => ⟨_, he, ?_⟩
  exact law_post (ds := [_]) (gs := []) laidOut rfl (by rw [Try.params5]; decide +kernel) rfl Try.underlying4 hW' hb rfl rfl rfl

set_option maxRecDepth 100000 in
theorem lifted (os : Os) (started : os.Started) (H : Type) (enc : TypeId × Value → H) (F : Stop.Interp) :
    ReturnsInHanded {} Try.checked os 5 .any ((Rows.OpenSpec.upto Rows.mergeTurnsSpec).pre6 enc Try.prog Try.f5 Rows.mergeTurnsUptoRow.domain false) (((Rows.OpenSpec.upto Rows.mergeTurnsSpec).at F).post enc Try.prog Try.f5 false true false false) := by
  refine returnsInHanded_of_cond (C := Try.checked) (s := Rows.OpenSpec.upto Rows.mergeTurnsSpec) (k := Rows.uptoSmall) rfl own started (by kernel_rfl) Try.func5
    (OpenSpec.witness (enc := enc) (C := Try.checked) (s := Rows.OpenSpec.upto Rows.mergeTurnsSpec) (k := Rows.uptoSmall) rfl false ⟨#[], #[.slice none 0 0], []⟩ 8 (by kernel_rfl) (by kernel_rfl) (by kernel_rfl)
      (x := ([.nil], [], [])) (by kernel_rfl) rfl (by kernel_rfl)) ?_
  intro W base args ds gs before hval hW _ hk _
  exact contract H enc W base args ds gs before hval hW hk
end Go.Proofs.Ytgipmbphbcnhcaa.lawMergeTurns
namespace Go.Proofs.Ytgipmbphbcnhcaa
open Go
theorem mergeTurns_upto : Rows.MergeTurnsUptoSaid :=
  OpenClaim.holds_of_cond 5 Try.f5 rfl rfl rfl rfl rfl rfl rfl ⟨rfl, rfl, rfl, rfl, rfl⟩ rfl rfl rfl rfl rfl (by kernel_rfl) Try.func5 (by kernel_rfl)
    (of_decide_eq_true (by kernel_rfl)) (by unfold Func.isWrapper; first | (rw [if_pos (by decide +kernel)]; kernel_rfl) | (rw [if_neg (by decide +kernel)]; exact ⟨rfl, rfl⟩))
    (fun os started H enc _ F => lawMergeTurns.lifted os started H enc F)
#print axioms mergeTurns_upto
end Go.Proofs.Ytgipmbphbcnhcaa
