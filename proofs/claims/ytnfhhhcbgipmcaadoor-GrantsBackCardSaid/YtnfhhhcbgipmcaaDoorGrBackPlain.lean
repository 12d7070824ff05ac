/- What is put of grants is got. No program. -/
import Derived.Test.YtnfhhhcbgipmcaaDoorGrRefPut
import Derived.Test.YtnfhhhcbgipmcaaDoorGrGet
namespace Go.Proofs.YtnfhhhcbgipmcaaDoor.L

theorem one_more (b : UInt8) (t : List UInt8) : T.tv 1 (b :: t) 0 = b.toNat ∧ T.tl 1 (b :: t) 0 = t ∧ T.te 1 (b :: t) 0 = 0 := by
  obtain ⟨q1, q2, q3⟩ := T.tv_good (n := 1) (l := b :: t) (by simp)
  exact ⟨by rw [q1]; simp [T.val, T.vals], by rw [q2]; rfl, q3⟩
theorem none_more : T.tv 1 [] 0 = 0 ∧ T.tl 1 [] 0 = [] ∧ T.te 1 [] 0 = 10 := T.tv_short (by simp)
theorem gst_three (b0 b1 b2 : UInt8) (t : List UInt8) : gst (b0 :: b1 :: b2 :: t) 0 3 = (t, 0) ∧ ggr (b0 :: b1 :: b2 :: t) 0 = ((b0.toNat : Int), (b1.toNat : Int), (b2.toNat : Int)) := by
  obtain ⟨p0, p1, p2⟩ := one_more b0 (b1 :: b2 :: t)
  obtain ⟨q0, q1, q2⟩ := one_more b1 (b2 :: t)
  obtain ⟨r0, r1, r2⟩ := one_more b2 t
  have s1 : gst (b0 :: b1 :: b2 :: t) 0 1 = (b1 :: b2 :: t, 0) := by unfold gst gst; simp only []; rw [p1, p2]
  have s2 : gst (b0 :: b1 :: b2 :: t) 0 2 = (b2 :: t, 0) := by unfold gst; rw [s1]; simp only []; rw [q1, q2]
  have s3 : gst (b0 :: b1 :: b2 :: t) 0 3 = (t, 0) := by unfold gst; rw [s2]; simp only []; rw [r1, r2]
  refine ⟨s3, ?_⟩
  unfold ggr gval
  rw [s1, s2]
  unfold gst
  simp only []
  rw [p0, q0, r0]
theorem gst_two (b0 b1 : UInt8) : (gst [b0, b1] 0 3).2 = 10 := by
  obtain ⟨p0, p1, p2⟩ := one_more b0 [b1]
  obtain ⟨q0, q1, q2⟩ := one_more b1 []
  obtain ⟨r0, r1, r2⟩ := none_more
  have s1 : gst [b0, b1] 0 1 = ([b1], 0) := by unfold gst gst; simp only []; rw [p1, p2]
  have s2 : gst [b0, b1] 0 2 = ([], 0) := by unfold gst; rw [s1]; simp only []; rw [q1, q2]
  unfold gst; rw [s2]; simp only []; rw [r2]

/-- Labels that there can be. -/
def byteG (g : Gr) : Prop := (0 ≤ g.1 ∧ g.1 ≤ 255) ∧ (0 ≤ g.2.1 ∧ g.2.1 ≤ 255) ∧ (0 ≤ g.2.2 ∧ g.2.2 ≤ 255)
theorem b8_val {x : Int} (h : 0 ≤ x ∧ x ≤ 255) : ((b8 x).toNat : Int) = x := by
  unfold b8
  rw [UInt8.toNat_ofNat']
  omega
theorem ggots_put (l : List Gr) (rest : List UInt8) (hg : ∀ g ∈ l, byteG g) : ∀ k, k ≤ l.length → ggots k (gbs l ++ rest) 0 = (l.take k, gbs (l.drop k) ++ rest, 0)
  | 0, _ => by simp [ggots]
  | k + 1, hk => by
    have ih := ggots_put l rest hg k (by omega)
    have hkl : k < l.length := by omega
    have hd : l.drop k = l[k] :: l.drop (k + 1) := List.drop_eq_getElem_cons hkl
    have hb : gbs (l.drop k) ++ rest = b8 l[k].1 :: b8 l[k].2.1 :: b8 l[k].2.2 :: (gbs (l.drop (k + 1)) ++ rest) := by
      rw [hd]
      rfl
    obtain ⟨s1, s2⟩ := gst_three (b8 l[k].1) (b8 l[k].2.1) (b8 l[k].2.2) (gbs (l.drop (k + 1)) ++ rest)
    obtain ⟨h0, h1, h2⟩ := hg l[k] (List.getElem_mem hkl)
    rw [b8_val h0, b8_val h1, b8_val h2] at s2
    unfold ggots
    rw [ih]
    simp only []
    rw [hb, s1, s2, List.take_succ_eq_append_getElem hkl]
theorem gotG_front {n : Nat} (hn : n < 256) (l : List UInt8) : gotG (be 1 n ++ l) = ggots n l 0 := by
  obtain ⟨q1, q2, q3⟩ := one_more (b8 (n : Int)) l
  have e : be 1 n ++ l = b8 (n : Int) :: l := by rw [be1_b8]; rfl
  unfold gotG
  rw [e, q1, q2, q3, show (b8 (n : Int)).toNat = n by have := b8_val (x := (n : Int)) (by omega); omega]
theorem gotG_put {l : List Gr} (hg : ∀ g ∈ l, byteG g) (h : l.length ≤ 64) (rest : List UInt8) : gotG (be 1 l.length ++ gbs l ++ rest) = (l, rest, 0) := by
  rw [List.append_assoc, gotG_front (by omega), ggots_put l rest hg _ (Nat.le_refl _)]
  simp [gbs]

structure GBack (l : List Gr) : Prop where
  len : (gput l).length = 3 * l.length + 1
  get : gget (gput l) = l
  getE : ggetE (gput l) = 0
  short : ggetE ((gput l).take (3 * l.length)) = 10
  more : ggetE (gput l ++ [0]) = 11
theorem gback {l : List Gr} (hg : ∀ g ∈ l, byteG g) (h64 : l.length ≤ 64) : GBack l := by
  have hp : gput l = be 1 l.length ++ gbs l := by unfold gput; rw [List.take_of_length_le (by omega)]
  have hlen : (gput l).length = 3 * l.length + 1 := by rw [hp, List.length_append, be_length, gbs_length]; omega
  have g0 := gotG_put hg h64 []
  rw [List.append_nil, ← hp] at g0
  have g1 := gotG_put hg h64 [0]
  rw [← hp] at g1
  have hgood := ggetE_good (l := gput l) (by rw [g0]) (by rw [g0]; exact h64) (by rw [g0])
  refine ⟨hlen, by rw [hgood.2, g0], hgood.1, ?_, (ggetE_form (by rw [g1]) (by rw [g1]; simp)).1⟩
  rcases List.eq_nil_or_concat l with rfl | ⟨vs, x, rfl⟩
  · have g2 : (gotG []).2.2 = 10 := by
      obtain ⟨r0, r1, r2⟩ := none_more
      unfold gotG
      rw [r0, r1, r2]
      rfl
    have := (ggetE_bad (l := []) (by rw [g2]; decide)).1
    rw [g2] at this
    simpa using this
  · rw [List.concat_eq_append] at *
    have hv : ∀ y ∈ vs, byteG y := fun y hy => hg y (by simp [hy])
    rw [List.length_append, List.length_singleton] at h64
    have e : (gput (vs ++ [x])).take (3 * (vs ++ [x]).length) = be 1 (vs.length + 1) ++ (gbs vs ++ [b8 x.1, b8 x.2.1]) := by
      rw [hp, gbs_snoc, List.length_append, List.length_singleton, show 3 * (vs.length + 1) = 1 + (3 * vs.length + 2) by omega, List.take_append, be_length, List.take_of_length_le (by rw [be_length]; omega), show 1 + (3 * vs.length + 2) - 1 = 3 * vs.length + 2 by omega, List.take_append, gbs_length, List.take_of_length_le (by rw [gbs_length]; omega), show 3 * vs.length + 2 - 3 * vs.length = 2 by omega]
      rfl
    have g2 : (gotG (be 1 (vs.length + 1) ++ (gbs vs ++ [b8 x.1, b8 x.2.1]))).2.2 = 10 := by
      rw [gotG_front (by omega)]
      unfold ggots
      rw [ggots_put vs _ hv _ (Nat.le_refl _)]
      simp only [List.drop_length]
      exact gst_two _ _
    rw [e]
    rw [(ggetE_bad (l := be 1 (vs.length + 1) ++ (gbs vs ++ [b8 x.1, b8 x.2.1])) (by rw [g2]; decide)).1, g2]
end Go.Proofs.YtnfhhhcbgipmcaaDoor.L
