/- What small returns. -/
import Derived.Test.YtljpfocmnppjgaaDoorOp14
namespace Go.Proofs.YtljpfocmnppjgaaDoor
open Go Go.RowKit

/-- What small tells of a script and a configuration. -/
structure Small (us : List Nat) (gs : List Gr) (l : List Opr) : Prop where
  few : l.length ≤ 120
  labels : us.length ≤ 12
  keep : ∀ o ∈ l, o.keep.length ≤ 70
  lat : L.check us = true
  grants : L.gcheck us gs = true
set_option maxRecDepth 4000 in
set_option maxHeartbeats 4000000 in
theorem small_any (vn vu vq vg vl : Value) (ns : List (List UInt8)) (us : List Nat) (qs : List Int) (gs : List Gr) (l : List Opr) (w : World) (h : Cf w vn vu vq vg ns us qs gs) (hl : Os w vl l) :
    Calls Tryd.prog 7 #[cfv vn vu vq vg, vl] w fun e w' => ∃ b, e = .returned (.bool b) ∧ (b = true → Small us gs l) ∧ Below w.heap.size w w' := by
  obtain ⟨ao, cap, rfl, -⟩ := hl.shape
  obtain ⟨au, cu, rfl, -⟩ := h.u.shape
  have hbig := hl.len
  have HL := Lib.hid hl
  have HK := Lib.hid (fun W (hW : Below w.heap.size w W) => check5_any _ _ _ _ ns us qs gs W (h.below hW))
  have HSm : Hid (l.length ≤ 120 → us.length ≤ 12 → (∀ o ∈ l, o.keep.length ≤ 70) → L.check us = true ∧ L.gcheck us gs = true → Small us gs l) := fun a b c d => ⟨a, b, c, d.1, d.2⟩
  have HB := Lib.hid (Cb.new w vn (.slice au us.length cu) vq vg)
  have hb1 : Hid (Below w.heap.size w (w.alloc (.cells #[vn, .slice au us.length cu, vq, vg] 27))) := (Below.refl _ _).alloc (Nat.le_refl _) _
  clear hl h
  obtain ⟨n, hn⟩ : ∃ n, l.length = n := ⟨_, rfl⟩
  have HN := Lib.hid hn
  obtain ⟨n2, hn2⟩ : ∃ n, us.length = n := ⟨_, rfl⟩
  rw [hn] at HL hbig HSm
  rw [hn2] at HK HB hb1 HSm
  rw [hn, hn2]
  clear hn hn2
  go_enter Tryd.func7, Tryd.ntmps7
  go_wp2_with fail
  go_loopw [5] (fun i wr => ∃ k : Nat, k ≤ n ∧ i = .int .i64 k ∧ Hid (∀ o ∈ l.take k, o.keep.length ≤ 70) ∧ Hid (Cb wr w.heap.size vn (.slice au n2 cu) vq vg) ∧ Hid (Below w.heap.size w wr)) (fun i _ => n - (intOf i).toNat)
  case atStart => exact ⟨0, by omega, rfl, (fun o ho => by simp at ho), HB, hb1⟩
  case round =>
    clear HB hb1
    obtain ⟨k, hk, rfl, HT, HCB, hbr⟩ := hrel
    by_cases hkn : k < n
    · have hkI : (k : Int) < (n : Int) := by omega
      have hk0 : (0 : Int) ≤ (k : Int) := by omega
      obtain ⟨b, off, u, rfl, hks, hat⟩ := HL.out.at (j := k) (by rw [HN.out]; exact hkn)
      obtain ⟨ua, uc, rfl, -⟩ := hks.shape
      have HT2 : Hid ((l[k]'(by rw [HN.out]; exact hkn)).keep.length ≤ 70 → ∀ o ∈ l.take (k + 1), o.keep.length ≤ 70) := fun h o ho => by
        rw [List.take_succ_eq_append_getElem (by rw [HN.out]; exact hkn)] at ho
        rcases List.mem_append.1 ho with ho | ho
        · exact HT.out o ho
        · rw [List.mem_singleton.1 ho]; exact h
      generalize (l[k]'(by rw [HN.out]; exact hkn)).keep.length = uq at *
      obtain ⟨o, ho⟩ : ∃ o, l[k]'(by rw [HN.out]; exact hkn) = o := ⟨_, rfl⟩
      rw [ho] at hat
      obtain ⟨p0, p1, p2, p3, p4, p5, p6, p7, p8, p9, p10⟩ := hat wr hbr.out
      simp only [Op11.put] at p4 p5 p6 p10
      clear ho hat hks p0 p1 p2 p3 p7 p8 p9
      by_cases h1 : 500 < o.val.length
      · have d1 : decide ((500 : Int) < (o.val.length : Int)) = true := by simp; omega
        go_wp2_with fail
        go_ret
        first | exact ⟨false, rfl, (fun h => by cases h), hbr.out⟩ | exact ⟨.inl rfl, hbr.out⟩ | exact ⟨rfl, hbr.out⟩ | exact .inl ⟨rfl, hbr.out⟩ | exact .inl ⟨rfl, (fun h => by cases h), hbr.out⟩
      · have d1 : decide ((500 : Int) < (o.val.length : Int)) = false := by simp; omega
        by_cases h2 : 60 < o.bucket.length
        · have d2 : decide ((60 : Int) < (o.bucket.length : Int)) = true := by simp; omega
          go_wp2_with fail
          go_ret
          first | exact ⟨false, rfl, (fun h => by cases h), hbr.out⟩ | exact ⟨.inl rfl, hbr.out⟩ | exact ⟨rfl, hbr.out⟩ | exact .inl ⟨rfl, hbr.out⟩ | exact .inl ⟨rfl, (fun h => by cases h), hbr.out⟩
        · have d2 : decide ((60 : Int) < (o.bucket.length : Int)) = false := by simp; omega
          by_cases h3 : 60 < o.key.length
          · have d3 : decide ((60 : Int) < (o.key.length : Int)) = true := by simp; omega
            go_wp2_with fail
            go_ret
            first | exact ⟨false, rfl, (fun h => by cases h), hbr.out⟩ | exact ⟨.inl rfl, hbr.out⟩ | exact ⟨rfl, hbr.out⟩ | exact .inl ⟨rfl, hbr.out⟩ | exact .inl ⟨rfl, (fun h => by cases h), hbr.out⟩
          · have d3 : decide ((60 : Int) < (o.key.length : Int)) = false := by simp; omega
            by_cases h4 : 70 < uq
            · have d4 : decide ((70 : Int) < (uq : Int)) = true := by simp; omega
              go_wp2_with fail
              go_ret
              first | exact ⟨false, rfl, (fun h => by cases h), hbr.out⟩ | exact ⟨.inl rfl, hbr.out⟩ | exact ⟨rfl, hbr.out⟩ | exact .inl ⟨rfl, hbr.out⟩ | exact .inl ⟨rfl, (fun h => by cases h), hbr.out⟩
            · have d4 : decide ((70 : Int) < (uq : Int)) = false := by simp; omega
              have HT3 := Lib.hid (HT2.out (by omega))
              clear HT2
              go_wp2_with fail
              go_roundw
              case rel => exact ⟨k + 1, by omega, by go_num, HT3, HCB, hbr⟩
              case measure => simp [intOf]; omega
    · have hkI : ¬ ((k : Int) < (n : Int)) := by omega
      rw [List.take_of_length_le (by rw [HN.out]; omega)] at HT
      by_cases h1 : n ≤ 120
      · have d1 : decide ((n : Int) ≤ 120) = true := by simp; omega
        have c1 := HCB.out.cell.2.1
        by_cases h2 : n2 ≤ 12
        · have d2 : decide ((n2 : Int) ≤ 12) = true := by simp; omega
          have c0 := HCB.out.cell.1
          have c2 := HCB.out.cell.2.2.1
          have c3 := HCB.out.cell.2.2.2
          have st := Lib.hid (HK.out wr hbr.out)
          clear HK
          go_wp2_with fail
          refine st.out.mono ?_
          rintro e w2 ⟨b, rfl, hb, hx⟩
          have hfin := Lib.hid (below_next hbr.out hx)
          have HF : Hid (b = true → Small us gs l) := fun h => HSm.out h1 h2 HT.out (hb h)
          clear hx hb st c0 c1 c2 c3
          go_wp2_with fail
          go_ret
          first | exact ⟨b, rfl, HF.out, hfin.out⟩ | exact ⟨rfl, HF.out, hfin.out⟩
        · have d2 : decide ((n2 : Int) ≤ 12) = false := by simp; omega
          go_wp2_with fail
          go_ret
          first | exact ⟨false, rfl, (fun h => by cases h), hbr.out⟩ | exact ⟨.inl rfl, hbr.out⟩ | exact ⟨rfl, hbr.out⟩ | exact .inl ⟨rfl, hbr.out⟩ | exact .inl ⟨rfl, (fun h => by cases h), hbr.out⟩
      · have d1 : decide ((n : Int) ≤ 120) = false := by simp; omega
        go_wp2_with fail
        go_ret
        first | exact ⟨false, rfl, (fun h => by cases h), hbr.out⟩ | exact ⟨.inl rfl, hbr.out⟩ | exact ⟨rfl, hbr.out⟩ | exact .inl ⟨rfl, hbr.out⟩ | exact .inl ⟨rfl, (fun h => by cases h), hbr.out⟩
end Go.Proofs.YtljpfocmnppjgaaDoor
