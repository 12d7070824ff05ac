/- What cmp.Compare returns at strings. -/
import Derived.Test.YtgipmbphbcnhcaaCmp
import Derived.Laws.Cover1
namespace Go.Proofs.Ytgipmbphbcnhcaa
open Go Go.RowKit

abbrev blt : List UInt8 → List UInt8 → Bool := Op.bytesLess
def ordS (a b : List UInt8) : Int := if blt a b then -1 else if a = b then 0 else 1
theorem nanS_any (a : List UInt8) (w : World) : Calls Try.prog 22 #[.string (str a)] w fun e w' => e = .returned (.bool false) ∧ w = w' := by
  have d : (a != a) = false := by simp
  go_enter Try.func22, Try.ntmps22
  go_wp2_with fail
  go_ret
  exact ⟨rfl, rfl⟩
set_option maxHeartbeats 400000 in
theorem ordS_any (a b : List UInt8) (w : World) : Calls Try.prog 19 #[.string (str a), .string (str b)] w fun e w' => e = .returned (.int .i64 (ordS a b)) ∧ w = w' := by
  cases h1 : blt a b with
  | true =>
    have h1' : Op.bytesLess a b = true := h1
    have hr : ordS a b = -1 := by unfold ordS; rw [h1]; rfl
    rw [hr]
    clear hr h1
    go_enter Try.func19, Try.ntmps19
    go_wp2_with fail
    refine (nanS_any a _).mono ?_
    rintro e w' ⟨rfl, rfl⟩
    go_wp2_with fail
    refine (nanS_any b _).mono ?_
    rintro e w' ⟨rfl, rfl⟩
    go_wp2_with fail
    go_ret
    exact ⟨rfl, rfl⟩
  | false =>
    have h1' : Op.bytesLess a b = false := h1
    by_cases h2 : a = b
    · have h2' : (a == b) = true := by simp [h2]
      have hr : ordS a b = 0 := by unfold ordS; rw [h1, if_neg (by decide), if_pos h2]
      rw [hr]
      clear hr h1 h2
      go_enter Try.func19, Try.ntmps19
      go_wp2_with fail
      refine (nanS_any a _).mono ?_
      rintro e w' ⟨rfl, rfl⟩
      go_wp2_with fail
      refine (nanS_any b _).mono ?_
      rintro e w' ⟨rfl, rfl⟩
      go_wp2_with fail
      go_ret
      exact ⟨rfl, rfl⟩
    · have h2' : (a == b) = false := by simp [h2]
      have hr : ordS a b = 1 := by unfold ordS; rw [h1, if_neg (by decide), if_neg h2]
      rw [hr]
      clear hr h1 h2
      go_enter Try.func19, Try.ntmps19
      go_wp2_with fail
      refine (nanS_any a _).mono ?_
      rintro e w' ⟨rfl, rfl⟩
      go_wp2_with fail
      refine (nanS_any b _).mono ?_
      rintro e w' ⟨rfl, rfl⟩
      go_wp2_with fail
      go_ret
      exact ⟨rfl, rfl⟩
end Go.Proofs.Ytgipmbphbcnhcaa
