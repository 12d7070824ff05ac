/- What slices.symMergeCmpFunc leaves, whatever the lengths. -/
import Derived.Test.YtgipmbphbcnhcaaRwSym3
namespace Go.Proofs.Ytgipmbphbcnhcaa
open Go Go.RowKit

theorem sym_any (base g n cap : Nat) (hbase : base ≤ g) (hs : n ≤ 1000000) : ∀ (K : Nat) (w : World) (a m b : Nat) (P A B T : List Rw), A.length + B.length ≤ K → Own w base g n cap (P ++ (A ++ (B ++ T))) → P.length = a → a + A.length = m → m + B.length = b → 0 < A.length → 0 < B.length → S.Sorted A → S.Sorted B →
      Calls Try.prog 25 #[.slice (some ⟨g, 0, none⟩) n cap, .int .i64 a, .int .i64 m, .int .i64 b, cmpV] w fun e w' => e = .returned (.tuple #[]) ∧ (∃ C, S.IsSort (A ++ B) C ∧ Own w' base g n cap (P ++ (C ++ T))) ∧ Below base w w' := by
  intro K
  induction K with
  | zero => intro w a m b P A B T h0 _ _ _ _ h1; omega
  | succ K ih =>
    intro w a m b P A B T hK hown ha hm hb hA0 hB0 hA hB
    by_cases h1 : A.length = 1
    · obtain ⟨x, rfl⟩ := List.length_eq_one_iff.1 h1
      exact sym_left w base g n cap a m b P x B T hbase hs hown ha (by simpa using hm) hb hB
    · by_cases h2 : B.length = 1
      · obtain ⟨x, rfl⟩ := List.length_eq_one_iff.1 h2
        exact sym_right w base g n cap a m b P x A T hbase hs hown ha hm (by simpa using hb) h1 hA
      · exact sym_step base g n cap hbase hs K ih w a m b P A B T hK hown ha hm hb (by omega) (by omega) hA hB
end Go.Proofs.Ytgipmbphbcnhcaa
