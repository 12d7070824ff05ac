/- What slices.stableCmpFunc leaves. -/
import Derived.Test.YtgipmbphbcnhcaaRwSym
namespace Go.Proofs.Ytgipmbphbcnhcaa
open Go Go.RowKit

namespace S
abbrev Bl := List (List Rw × List Rw)
def fsts (bl : Bl) : List Rw := bl.flatMap Prod.fst
def snds (bl : Bl) : List Rw := bl.flatMap Prod.snd
/-- Blocks of one length, each in order. -/
def Fit (bs : Nat) (bl : Bl) : Prop := ∀ p ∈ bl, p.1.length = bs ∧ IsSort p.1 p.2
theorem fsts_append (a b : Bl) : fsts (a ++ b) = fsts a ++ fsts b := by simp [fsts]
theorem snds_append (a b : Bl) : snds (a ++ b) = snds a ++ snds b := by simp [snds]
theorem fsts_cons (p : List Rw × List Rw) (b : Bl) : fsts (p :: b) = p.1 ++ fsts b := by simp [fsts]
theorem snds_cons (p : List Rw × List Rw) (b : Bl) : snds (p :: b) = p.2 ++ snds b := by simp [snds]
theorem snds_len {bs : Nat} : ∀ {bl : Bl}, Fit bs bl → (snds bl).length = bl.length * bs
  | [], _ => by simp [snds]
  | p :: bl, h => by
    have h1 := h p (List.mem_cons_self)
    rw [snds_cons, List.length_append, snds_len (bl := bl) fun q hq => h q (List.mem_cons_of_mem _ hq), h1.2.len, h1.1, List.length_cons, Nat.succ_mul]
    omega
theorem Fit.snoc {bs : Nat} {bl : Bl} (h : Fit bs bl) {l m : List Rw} (h1 : l.length = bs) (h2 : IsSort l m) : Fit bs (bl ++ [(l, m)]) := fun p hp => by
  rcases List.mem_append.1 hp with k | k
  · exact h p k
  · rw [List.mem_singleton.1 k]; exact ⟨h1, h2⟩
theorem Fit.tail {bs : Nat} {bl : Bl} {p : List Rw × List Rw} (h : Fit bs (p :: bl)) : Fit bs bl := fun q hq => h q (List.mem_cons_of_mem _ hq)
theorem IsSort.of_parts {l1 l2 m1 m2 m : List Rw} (h1 : IsSort l1 m1) (h2 : IsSort l2 m2) (h : IsSort (m1 ++ m2) m) : IsSort (l1 ++ l2) m := h.of_alike (h1.alike.append h2.alike)
/-- One block alone. -/
theorem last_block {bs n : Nat} {bl : Bl} {lt mt : List Rw} (hf : Fit bs bl) (ht : IsSort lt mt) (hl : mt.length < bs) (hn : (snds bl).length + mt.length = n) (h : n ≤ bs) : IsSort (fsts bl ++ lt) (snds bl ++ mt) := by
  rw [snds_len hf] at hn
  match bl, hf, hn with
  | [], _, _ => simpa [fsts, snds] using ht
  | [p], hf, hn =>
    have h1 := hf p (List.mem_cons_self)
    have h0 : mt = [] := List.eq_nil_of_length_eq_zero (by simp at hn; omega)
    have h2 : lt = [] := by have := ht.len; rw [h0] at this; exact List.eq_nil_of_length_eq_zero (by simpa using this.symm)
    subst h0 h2
    simpa [fsts, snds] using h1.2
  | p :: q :: bl, _, hn =>
    exfalso
    simp only [List.length_cons, Nat.succ_mul] at hn
    omega
end S

theorem Own.base {w : World} {base g n cap : Nat} {m : List Rw} (h : Own w base g n cap m) : base ≤ g := by
  rcases h.2 with ⟨h0, -⟩ | ⟨g', cap', cur, e, h3, h4, h1, h2, -⟩
  · cases h0
  · cases e; exact h3

set_option maxRecDepth 4000 in
set_option maxHeartbeats 8000000 in
theorem stable_any (w : World) (base g n cap : Nat) (l : List Rw) (hs : n ≤ 1000000) (hown : Own w base g n cap l) :
    Calls Try.prog 21 #[.slice (some ⟨g, 0, none⟩) n cap, .int .i64 n, cmpV] w fun e w' => e = .returned (.tuple #[]) ∧ (∃ C, S.IsSort l C ∧ Own w' base g n cap C) ∧ Below base w w' := by
  have hbase := hown.base
  have HO := Lib.hid hown
  clear hown
  have HINS := Lib.hid (fun W a b P A T h => insertion_any W base g n cap a b P A T hbase hs h)
  have HSYM := Lib.hid (fun W a m b P A B T h => sym_any base g n cap hbase hs (A.length + B.length) W a m b P A B T (Nat.le_refl _) h)
  go_enter Try.func21, Try.ntmps21
  go_wp2_with fail
  go_loopw [7, 8] (fun u v wr => ∃ (a b : Nat) (dl : S.Bl) (R : List Rw), u = .int .i64 a ∧ v = .int .i64 b ∧ a + 20 = b ∧ a ≤ n ∧ Hid (S.Fit 20 dl ∧ (S.snds dl).length = a ∧ l = S.fsts dl ++ R ∧ a + R.length = n) ∧ Hid (Own wr base g n cap (S.snds dl ++ R)) ∧ Hid (Below base w wr)) (fun u _ _ => n - (intOf u).toNat)
  case atStart => exact ⟨0, 20, [], l, rfl, rfl, rfl, by omega, ⟨(fun p hp => by cases hp), rfl, rfl, by have := HO.out.len; omega⟩, HO, Below.refl _ _⟩
  case round =>
    obtain ⟨a, b, dl, R, rfl, rfl, hab, han, HI, hr, hbr⟩ := hrel
    clear HO
    by_cases hlt : b ≤ n
    · have hlt' : (b : Int) ≤ (n : Int) := by omega
      have f1 : IntKind.i64.wrap ((b : Int) + 20) = ((b + 20 : Nat) : Int) := by rw [IntKind.wrap_i64] <;> omega
      obtain ⟨A, T, hAT⟩ : ∃ A T, R = A ++ T ∧ A.length = 20 := ⟨R.take 20, R.drop 20, (List.take_append_drop _ _).symm, by have := HI.out.2.2.2; rw [List.length_take]; omega⟩
      have HT := Lib.hid hAT
      clear hAT
      have HR := HINS.out wr a b (S.snds dl) A T (by have := hr.out; rw [HT.out.1] at this; exact this) HI.out.2.1 (by have := HT.out.2; omega)
      have HR := Lib.hid HR
      go_wp2_with fail
      refine HR.out.mono ?_
      rintro e w1 ⟨rfl, ⟨C, hC, ho1⟩, hb1⟩
      have hr1 : Hid (Own w1 base g n cap (S.snds (dl ++ [(A, C)]) ++ T)) := by unfold Hid; rw [S.snds_append]; simpa [S.snds] using ho1
      have hb1 := Lib.hid (hbr.out.trans hb1)
      have HJ : Hid (S.Fit 20 (dl ++ [(A, C)]) ∧ (S.snds (dl ++ [(A, C)])).length = b ∧ l = S.fsts (dl ++ [(A, C)]) ++ T ∧ b + T.length = n) := by
        obtain ⟨k1, k2, k3, k4⟩ := HI.out
        obtain ⟨k5, k6⟩ := HT.out
        have k7 := hC.len
        refine ⟨k1.snoc k6 hC, ?_, ?_, ?_⟩
        · rw [S.snds_append, List.length_append, k2]; simp [S.snds]; omega
        · rw [S.fsts_append, k3, k5]; simp [S.fsts]
        · rw [k5, List.length_append] at k4; omega
      clear ho1 HR hr hbr hC HI HT
      go_wp2_with fail
      exact ⟨⟨b, b + 20, dl ++ [(A, C)], T, rfl, rfl, rfl, hlt, HJ, hr1, hb1⟩, by simp only [intOf]; omega⟩
    · have hlt' : ¬ (b : Int) ≤ (n : Int) := by omega
      have HR := Lib.hid (HINS.out wr a n (S.snds dl) R [] (by simpa using hr.out) HI.out.2.1 HI.out.2.2.2)
      go_wp2_with fail
      refine HR.out.mono ?_
      rintro e w1 ⟨rfl, ⟨C, hC, ho1⟩, hb1⟩
      have hr1 : Hid (Own w1 base g n cap (S.snds dl ++ C)) := by unfold Hid; simpa using ho1
      have hb1 := Lib.hid (hbr.out.trans hb1)
      have HJ : Hid (S.Fit 20 dl ∧ l = S.fsts dl ++ R ∧ S.IsSort R C ∧ C.length < 20 ∧ (S.snds dl).length + C.length = n) := by
        obtain ⟨k1, k2, k3, k4⟩ := HI.out
        have k7 := hC.len
        exact ⟨k1, k3, hC, by omega, by omega⟩
      clear ho1 HR hr hbr hC HI
      go_wp2_with fail
      go_loopw [6] (fun u wr => ∃ (bs : Nat) (bl : S.Bl) (lt mt : List Rw), u = .int .i64 bs ∧ 0 < bs ∧ Hid (S.Fit bs bl ∧ l = S.fsts bl ++ lt ∧ S.IsSort lt mt ∧ mt.length < bs ∧ (S.snds bl).length + mt.length = n) ∧ Hid (Own wr base g n cap (S.snds bl ++ mt)) ∧ Hid (Below base w wr)) (fun u _ => n - (intOf u).toNat)
      case atStart => exact ⟨20, dl, R, C, rfl, by omega, HJ, hr1, hb1⟩
      case round =>
        obtain ⟨bs, bl0, lt, mt, rfl, hbs, HI, hr, hbr⟩ := hrel
        clear HJ hr1 hb1
        by_cases hbn : bs < n
        · have hbn' : (bs : Int) < (n : Int) := by omega
          obtain ⟨d, hd⟩ : ∃ d, bs + bs = d := ⟨_, rfl⟩
          have f1 : IntKind.i64.wrap (2 * (bs : Int)) = (d : Int) := by rw [IntKind.wrap_i64] <;> omega
          have f2 : IntKind.i64.wrap ((bs : Int) * 2) = (d : Int) := by rw [IntKind.wrap_i64] <;> omega
          go_wp2_with fail
          go_loopw [7, 8] (fun u v wr => ∃ (a b : Nat) (dl bl : S.Bl), u = .int .i64 a ∧ v = .int .i64 b ∧ a + d = b ∧ a ≤ n ∧ Hid (S.Fit d dl ∧ S.Fit bs bl ∧ (S.snds dl).length = a ∧ l = S.fsts dl ++ (S.fsts bl ++ lt) ∧ a + (S.snds bl).length + mt.length = n) ∧ Hid (Own wr base g n cap (S.snds dl ++ (S.snds bl ++ mt))) ∧ Hid (Below base w wr)) (fun u _ _ => n - (intOf u).toNat)
          case atStart => exact ⟨0, d, [], bl0, rfl, rfl, by omega, by omega, ⟨(fun p hp => by cases hp), HI.out.1, rfl, HI.out.2.1, by have := HI.out.2.2.2.2; omega⟩, hr, hbr⟩
          case round =>
            have HTL : Hid (S.IsSort lt mt ∧ mt.length < bs) := ⟨HI.out.2.2.1, HI.out.2.2.2.1⟩
            clear hr hbr HI
            obtain ⟨a, b, dl, bl, rfl, rfl, hab, han, HI, hr, hbr⟩ := hrel
            obtain ⟨m, hm⟩ : ∃ m, a + bs = m := ⟨_, rfl⟩
            have f3 : IntKind.i64.wrap ((a : Int) + (bs : Int)) = (m : Int) := by rw [IntKind.wrap_i64] <;> omega
            by_cases hlt : b ≤ n
            · have hlt' : (b : Int) ≤ (n : Int) := by omega
              have f4 : IntKind.i64.wrap ((b : Int) + (d : Int)) = ((b + d : Nat) : Int) := by rw [IntKind.wrap_i64] <;> omega
              obtain ⟨p, q, bl2, hbl⟩ : ∃ p q bl2, bl = p :: q :: bl2 := by
                have k1 := HI.out.2.2.2.2
                rw [S.snds_len HI.out.2.1] at k1
                have k2 := HTL.out.2
                match bl, k1 with
                | [], k1 => simp at k1; omega
                | [p], k1 => simp at k1; omega
                | p :: q :: bl2, _ => exact ⟨p, q, bl2, rfl⟩
              subst hbl
              have Hp : Hid ((p.1.length = bs ∧ S.IsSort p.1 p.2) ∧ (q.1.length = bs ∧ S.IsSort q.1 q.2) ∧ S.Fit bs bl2) := ⟨HI.out.2.1 p (by simp), HI.out.2.1 q (by simp), HI.out.2.1.tail.tail⟩
              have HR := HSYM.out wr a m b (S.snds dl) p.2 q.2 (S.snds bl2 ++ mt) (by have := hr.out; rw [S.snds_cons, S.snds_cons] at this; simpa using this) HI.out.2.2.1 (by have := Hp.out.1.2.len; have := Hp.out.1.1; omega) (by have := Hp.out.2.1.2.len; have := Hp.out.2.1.1; omega) (by have := Hp.out.1.2.len; have := Hp.out.1.1; omega) (by have := Hp.out.2.1.2.len; have := Hp.out.2.1.1; omega) Hp.out.1.2.sorted Hp.out.2.1.2.sorted
              have HR := Lib.hid HR
              go_wp2_with fail
              refine HR.out.mono ?_
              rintro e w1 ⟨rfl, ⟨C, hC, ho1⟩, hb1⟩
              have hr1 : Hid (Own w1 base g n cap (S.snds (dl ++ [(p.1 ++ q.1, C)]) ++ (S.snds bl2 ++ mt))) := by unfold Hid; rw [S.snds_append]; simpa [S.snds] using ho1
              have hb1 := Lib.hid (hbr.out.trans hb1)
              have HJ : Hid (S.Fit d (dl ++ [(p.1 ++ q.1, C)]) ∧ S.Fit bs bl2 ∧ (S.snds (dl ++ [(p.1 ++ q.1, C)])).length = b ∧ l = S.fsts (dl ++ [(p.1 ++ q.1, C)]) ++ (S.fsts bl2 ++ lt) ∧ b + (S.snds bl2).length + mt.length = n) := by
                obtain ⟨k1, k2, k3, k4, k5⟩ := HI.out
                obtain ⟨⟨j1, j2⟩, ⟨j3, j4⟩, j5⟩ := Hp.out
                have j6 := j2.len
                have j7 := j4.len
                have k7 := hC.len
                rw [List.length_append] at k7
                refine ⟨k1.snoc (by rw [List.length_append]; omega) (S.IsSort.of_parts j2 j4 hC), j5, ?_, ?_, ?_⟩
                · rw [S.snds_append, List.length_append, k3]; simp [S.snds]; omega
                · rw [S.fsts_append, k4, S.fsts_cons, S.fsts_cons]; simp [S.fsts]
                · rw [S.snds_cons, S.snds_cons, List.length_append, List.length_append] at k5; omega
              clear ho1 HR hr hbr hC HI Hp
              go_wp2_with fail
              exact ⟨⟨b, b + d, dl ++ [(p.1 ++ q.1, C)], bl2, rfl, rfl, rfl, hlt, HJ, hr1, hb1⟩, by simp only [intOf]; omega⟩
            · have hlt' : ¬ (b : Int) ≤ (n : Int) := by omega
              by_cases hmn : m < n
              · have hmn' : (m : Int) < (n : Int) := by omega
                obtain ⟨p, hbl⟩ : ∃ p, bl = [p] := by
                  have k1 := HI.out.2.2.2.2
                  rw [S.snds_len HI.out.2.1] at k1
                  have k2 := HTL.out.2
                  match bl, k1 with
                  | [], k1 => simp at k1; omega
                  | [p], _ => exact ⟨p, rfl⟩
                  | p :: q :: bl2, k1 => simp only [List.length_cons, Nat.succ_mul] at k1; exfalso; omega
                subst hbl
                have Hp := Lib.hid (HI.out.2.1 p (by simp))
                have Hl : Hid (p.2.length = bs ∧ m + mt.length = n) := by
                  have k1 := HI.out.2.2.2.2
                  have k2 := Hp.out.2.len
                  have k3 := Hp.out.1
                  rw [show S.snds [p] = p.2 by simp [S.snds]] at k1
                  exact ⟨by omega, by omega⟩
                have HR := HSYM.out wr a m n (S.snds dl) p.2 mt [] (by have := hr.out; rw [show S.snds [p] = p.2 by simp [S.snds]] at this; simpa using this) HI.out.2.2.1 (by have := Hl.out.1; omega) Hl.out.2 (by have := Hl.out.1; omega) (by have := Hl.out.2; omega) Hp.out.2.sorted HTL.out.1.sorted
                have HR := Lib.hid HR
                go_wp2_with fail
                refine HR.out.mono ?_
                rintro e w1 ⟨rfl, ⟨C, hC, ho1⟩, hb1⟩
                have hr1 : Hid (Own w1 base g n cap (S.snds dl ++ C)) := by unfold Hid; simpa using ho1
                have hb1 := Lib.hid (hbr.out.trans hb1)
                have HJ : Hid (S.Fit d dl ∧ l = S.fsts dl ++ (p.1 ++ lt) ∧ S.IsSort (p.1 ++ lt) C ∧ C.length < d ∧ (S.snds dl).length + C.length = n) := by
                  obtain ⟨k1, k2, k3, k4, k5⟩ := HI.out
                  have k7 := hC.len
                  have k8 := Hl.out.1
                  have k9 := Hl.out.2
                  have k10 := HTL.out.2
                  rw [List.length_append] at k7
                  exact ⟨k1, by rw [k4, show S.fsts [p] = p.1 by simp [S.fsts]], S.IsSort.of_parts Hp.out.2 HTL.out.1 hC, by omega, by omega⟩
                clear ho1 HR hr hbr hC HI Hp Hl HTL
                go_wp2_with fail
                exact ⟨⟨d, dl, p.1 ++ lt, C, rfl, by omega, HJ, hr1, hb1⟩, by simp only [intOf]; omega⟩
              · have hmn' : ¬ (m : Int) < (n : Int) := by omega
                have HJ : Hid (S.Fit d dl ∧ l = S.fsts dl ++ (S.fsts bl ++ lt) ∧ S.IsSort (S.fsts bl ++ lt) (S.snds bl ++ mt) ∧ (S.snds bl ++ mt).length < d ∧ (S.snds dl).length + (S.snds bl ++ mt).length = n) := by
                  obtain ⟨k1, k2, k3, k4, k5⟩ := HI.out
                  exact ⟨k1, k4, S.last_block (n := n - a) k2 HTL.out.1 HTL.out.2 (by omega) (by omega), by rw [List.length_append]; omega, by rw [List.length_append]; omega⟩
                clear HI HTL
                go_wp2_with fail
                exact ⟨⟨d, dl, S.fsts bl ++ lt, S.snds bl ++ mt, rfl, by omega, HJ, hr, hbr⟩, by simp only [intOf]; omega⟩
        · have hbn' : ¬ (bs : Int) < (n : Int) := by omega
          go_wp2_with fail
          go_end0
          obtain ⟨k1, k2, k3, k4, k5⟩ := HI.out
          exact ⟨rfl, ⟨_, by rw [k2]; exact S.last_block k1 k3 k4 k5 (by omega), hr.out⟩, hbr.out⟩
end Go.Proofs.Ytgipmbphbcnhcaa
