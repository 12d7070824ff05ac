/- What the reference's Sources returns, over a lattice. -/
import Derived.Test.YtnfhhhcbgipmcaaDoorRefSrcPlain
import Derived.Test.YtnfhhhcbgipmcaaDoorGr3
import Derived.Test.YtnfhhhcbgipmcaaDoorLat2
import Derived.Deep.LoopGhost
namespace Go.Proofs.YtnfhhhcbgipmcaaDoor
open Go Go.RowKit

def bCells (bs : List Bool) : List Value := bs.map Value.bool
theorem bown_cell {w : World} {base n cap g : Nat} {bs : List Bool} (h : w.ownsRow base 4 1 (.slice (some ⟨g, 0, none⟩) n cap) n (bCells bs)) (j : Nat) (hj : j < bs.length) : w.cell? ⟨g, j, none⟩ = some (.bool (L.on bs j)) := by
  have hl := h.1
  rw [bCells, List.length_map] at hl
  rw [h.cellAt j (by omega), bCells, List.getElem?_map, List.getElem?_eq_getElem hj, L.on, List.getD_eq_getElem?_getD, List.getElem?_eq_getElem hj]
  rfl
theorem bown_store {w : World} {base n cap g : Nat} {bs : List Bool} (h : w.ownsRow base 4 1 (.slice (some ⟨g, 0, none⟩) n cap) n (bCells bs)) (j : Nat) (x : Bool) :
    (w.setCell ⟨g, j, none⟩ (.bool x)).ownsRow base 4 1 (.slice (some ⟨g, 0, none⟩) n cap) n (bCells (bs.set j x)) := by
  have := (h.stored j (.bool x)).1
  rwa [show (bCells bs).set j (.bool x) = bCells (bs.set j x) by simp [bCells, List.map_set]] at this
theorem wrap_add_pow2 {q b q1 : Nat} (h : q1 = q + 2 ^ b) (hl : q1 < 18446744073709551616) : IntKind.u64.wrap ((q : Int) + 2 ^ b) = (q1 : Int) := by
  have e : (q : Int) + 2 ^ b = (q1 : Int) := by rw [h, Int.natCast_add, Int.natCast_pow]; rfl
  rw [e, IntKind.wrap_u64]
  omega
theorem infoBool : (Tryd.prog.info? 4).map (fun i => (i.zero, i.size, i.bytes)) = some (some (.bool false), 1, 1) := by kernel_rfl

set_option maxRecDepth 6000 in
set_option maxHeartbeats 4000000 in
theorem refSources_any (v : Value) (us : List Nat) (vl : Value) (l : List Gr) (s : Nat) (w : World) (hv : Us w v us) (hu : U64s us) (hl : Gs w vl l) (hs : s < 18446744073709551616) (hlat : L.Lat us) :
    Calls Tryd.prog 43 #[v, vl, .int .u64 s] w fun e w' => e = .returned (.int .u64 (L.srcs us l s : Nat)) ∧ Below w.heap.size w w' := by
  obtain ⟨ao, cap, rfl, -⟩ := hv.shape
  obtain ⟨aol, capl, rfl, -⟩ := hl.shape
  have hbigl := hl.len
  have h64 := hlat.few
  have h1 := hlat.some
  have HL := Lib.hid hl
  have HQ := Lib.hid (fun (c d : Int) (W : World) (hW : Below w.heap.size w W) => refLeq_any _ us c d W (hv.below hW) hu)
  have HF := Lib.hid (fun (g : Gr) (W : World) (hW : Below w.heap.size w W) => refFits_any _ us g W (hv.below hW) hu)
  clear hv hl hlat hu
  obtain ⟨n, hn⟩ : ∃ n, us.length = n := ⟨_, rfl⟩
  have HN := Lib.hid hn
  rw [hn] at h64 h1
  go_enter Tryd.func43, Tryd.ntmps43
  rw [hn]
  rw [hn] at HQ HF
  clear hn
  go_wp2_with (at_make; go_must (refine wpList_make_sl rfl _ _ 84 rfl w.heap.size 4 (.bool false) 1 1 Tryd.underlying84 infoBool _ _ n rfl rfl (by omega) (by unfold maxLen; omega) (Nat.le_refl _) ?_))
  intro w1 hown hgrow
  have hb1 := (Below.refl w.heap.size w).grown hgrow (Nat.le_refl _) (by simp)
  have HO : Hid (w1.ownsRow w.heap.size 4 1 (.slice (some ⟨w.heap.size, 0, none⟩) n n) n (bCells (L.ask n s 0))) := by
    unfold Hid
    rw [toList_madeCells_one] at hown
    rw [L.ask_zero, bCells, List.map_replicate]
    exact hown
  obtain ⟨g, hg⟩ : ∃ g, w.heap.size = g := ⟨_, rfl⟩
  have hbg : w.heap.size ≤ g := Nat.le_of_eq hg
  clear hown hgrow
  have HO1 : Hid (w1.ownsRow w.heap.size 4 1 (.slice (some ⟨g, 0, none⟩) n n) n (bCells (L.ask n s 0))) := by rw [← hg]; exact HO.out
  clear HO
  rw [hg]
  replace hg := Lib.hid hg
  go_wp2_with fail
  go_loopw [8] (fun i wr => ∃ k : Nat, k ≤ n ∧ i = .int .i64 k ∧ Hid (wr.ownsRow w.heap.size 4 1 (.slice (some ⟨g, 0, none⟩) n n) n (bCells (L.ask n s k))) ∧ Below w.heap.size w wr) (fun i _ => n - (intOf i).toNat)
  case atStart => exact ⟨0, by omega, rfl, HO1, hb1⟩
  case round =>
    clear hb1 HO1
    obtain ⟨k, hk, rfl, hr, hbr⟩ := hrel
    by_cases hkn : k < n
    · have HB1 := Lib.hid (fun w => refBit_any s k hs (by omega) w)
      have hc := bown_cell hr.out k (by rw [L.ask_length]; exact hkn)
      have hf := hr.out.frozenAt k
      have hkI : (k : Int) < (n : Int) := by omega
      have hset := Lib.hid (L.ask_set (s := s) hkn)
      go_wp2_with fail
      refine (HB1.out _).mono ?_
      rintro e w' ⟨rfl, rfl⟩
      go_wp2_with fail
      go_roundw
      case rel =>
        refine ⟨k + 1, by omega, by go_num, ?_, hbr.setCell hbg _⟩
        unfold Hid
        rw [← hset.out]
        exact bown_store hr.out k _
      case measure => simp [intOf]; omega
    · obtain rfl : n = k := by omega
      have HI : Hid (L.RInv us l s (L.ask n s n)) := by have := L.ask_inv us l s; rw [HN.out] at this; exact this
      clear hk hkn
      have hr0 := hr
      obtain ⟨b0, hb0⟩ : ∃ b0, L.ask n s n = b0 := ⟨_, rfl⟩
      rw [hb0] at HI hr0
      clear hb0 hr
      have hbr0 := hbr
      clear hbr
      go_wp2_with fail
      go_loopg [9] (2 * (n - b0.count true) + 1) (fun gg m wr => ∃ (bs : List Bool) (mb : Bool), m = .bool mb ∧ Hid (wr.ownsRow w.heap.size 4 1 (.slice (some ⟨g, 0, none⟩) n n) n (bCells bs)) ∧ Below w.heap.size w wr ∧ Hid (L.RInv us l s bs) ∧ Hid (2 * (n - bs.count true) + (if mb then 1 else 0) ≤ gg) ∧ Hid (mb = false → ofBits us.length (L.on bs) = L.srcs us l s))
      case atStart => exact ⟨b0, true, rfl, hr0, hbr0, HI, Nat.le_refl _, fun h => (by cases h)⟩
      case round =>
        clear hr0 hbr0 HI
        obtain ⟨bs, mb, rfl, hr, hbr, HI, HP, HZ⟩ := hrel
        cases mb with
        | false =>
          have hres := Lib.hid (HZ.out rfl)
          have hlen := HI.out.len
          rw [HN.out] at hlen hres
          clear HI HP HZ
          go_wp2_with fail
          go_loopw [14, 15] (fun t i wr => ∃ k : Nat, k ≤ n ∧ i = .int .i64 k ∧ t = .int .u64 (ofBits k (L.on bs) : Nat) ∧ Hid (wr.ownsRow w.heap.size 4 1 (.slice (some ⟨g, 0, none⟩) n n) n (bCells bs)) ∧ Below w.heap.size w wr) (fun _ i _ => n - (intOf i).toNat)
          case atStart => exact ⟨0, by omega, rfl, rfl, hr, hbr⟩
          case round =>
            clear hr hbr
            obtain ⟨k, hk, rfl, rfl, hr, hbr⟩ := hrel
            by_cases hkn : k < n
            · have hc := bown_cell hr.out k (by omega)
              have hsk := Lib.hid (ofBits_succ k (L.on bs))
              have hkI : (k : Int) < (n : Int) := by omega
              have q1 := ofBits_lt k (L.on bs)
              have q2 := pow_le64 (show k + 1 ≤ 64 by omega)
              rw [Nat.pow_succ] at q2
              have HOne := Lib.hid (fun w => refOne_any k (by omega) w)
              obtain ⟨p, hp⟩ : ∃ p, ofBits k (L.on bs) = p := ⟨_, rfl⟩
              rw [hp] at hsk q1 ⊢
              clear hp
              cases hx : L.on bs k with
              | false =>
                rw [hx] at hc hsk
                have hs1 : Hid (ofBits (k + 1) (L.on bs) = p) := by unfold Hid; rw [hsk.out]; simp
                clear hx q1 q2
                go_wp2_with fail
                go_roundw
                case rel => exact ⟨k + 1, by omega, by go_num, by rw [hs1.out], hr, hbr⟩
                case measure => simp [intOf]; omega
              | true =>
                rw [hx] at hc hsk
                have hq : p + 2 ^ k < 18446744073709551616 := by omega
                obtain ⟨q, hqe⟩ : ∃ q, q = p + 2 ^ k := ⟨_, rfl⟩
                have hs1 : Hid (ofBits (k + 1) (L.on bs) = q) := by unfold Hid; rw [hsk.out, hqe]; simp
                rw [← hqe] at hq
                replace hqe := Lib.hid hqe
                clear hx q1 q2
                go_wp2_with fail
                refine (HOne.out _).mono ?_
                rintro e w' ⟨rfl, rfl⟩
                go_wp2_with fail
                go_roundw
                case rel => exact ⟨k + 1, by omega, by go_num, by rw [hs1.out, wrap_add_pow2 hqe.out hq], hr, hbr⟩
                case measure => simp [intOf]; omega
            · obtain rfl : n = k := by omega
              rw [hres.out]
              go_wp2_with fail
              go_ret
              exact ⟨rfl, hbr⟩
        | true =>
          have HP1 : Hid (2 * (n - bs.count true) + 1 ≤ gk) := HP.out
          have HPass : Hid (L.RPass us l s (bs.count true) bs false (L.doneF us 0 0)) := L.RPass.start HI.out
          obtain ⟨c0, hc0⟩ : ∃ c0, bs.count true = c0 := ⟨_, rfl⟩
          rw [hc0] at HP1 HPass
          clear HP HI HZ hc0
          have hra := hr
          have hbra := hbr
          clear hr hbr
          go_wp2_with fail
          go_loopw [9, 10] (fun m i wr => ∃ (ns : List Bool) (nb : Bool) (a : Nat), a ≤ n ∧ i = .int .i64 a ∧ m = .bool nb ∧ Hid (wr.ownsRow w.heap.size 4 1 (.slice (some ⟨g, 0, none⟩) n n) n (bCells ns)) ∧ Below w.heap.size w wr ∧ Hid (L.RPass us l s c0 ns nb (L.doneF us a 0))) (fun _ i _ => n - (intOf i).toNat)
          case atStart => exact ⟨bs, false, 0, by omega, rfl, rfl, hra, hbra, HPass⟩
          case round =>
            clear hra hbra HPass
            obtain ⟨ns, nb, a, ha, rfl, rfl, hr, hbr, HPA⟩ := hrel
            by_cases hal : a < n
            · have hrb := hr
              have hbrb := hbr
              clear hr hbr
              have haI : (a : Int) < (n : Int) := by omega
              go_wp2_with fail
              go_loopw [9, 11] (fun m i wr => ∃ (ns : List Bool) (nb : Bool) (b : Nat), b ≤ n ∧ i = .int .i64 b ∧ m = .bool nb ∧ Hid (wr.ownsRow w.heap.size 4 1 (.slice (some ⟨g, 0, none⟩) n n) n (bCells ns)) ∧ Below w.heap.size w wr ∧ Hid (L.RPass us l s c0 ns nb (L.doneF us a b))) (fun _ i _ => n - (intOf i).toNat)
              case atStart => exact ⟨ns, nb, 0, by omega, rfl, rfl, hrb, hbrb, HPA⟩
              case round =>
                clear hrb hbrb HPA
                obtain ⟨ns, nb, b, hb, rfl, rfl, hr, hbr, HPB⟩ := hrel
                by_cases hbl : b < n
                · have hlen : ns.length = n := HPB.out.inv.len.trans HN.out
                  have hcb := bown_cell hr.out b (by omega)
                  have hca := bown_cell hr.out a (by omega)
                  have hfa := hr.out.frozenAt a
                  have hbI : (b : Int) < (n : Int) := by omega
                  have HQab := Lib.hid (HQ.out a b wr hbr)
                  have HSk : Hid ((L.on ns b = true → L.leq us a b = true → L.on ns a = true) → L.RPass us l s c0 ns nb (L.doneF us a (b + 1))) := fun h => HPB.out.skipF h
                  have HTu : Hid (L.on ns b = true → L.leq us a b = true → L.on ns a = false → L.RPass us l s c0 (ns.set a true) true (L.doneF us a (b + 1))) := fun h1 h2 h3 => HPB.out.turnF (by rw [HN.out]; exact hal) h1 h2 h3 _
                  clear HPB
                  cases hxb : L.on ns b with
                  | false =>
                    rw [hxb] at hcb
                    have HS1 := Lib.hid (HSk.out fun h => (by rw [hxb] at h; cases h))
                    clear hxb HSk HTu HQab hfa
                    go_wp2_with fail
                    go_roundw
                    case rel => exact ⟨ns, nb, b + 1, by omega, by go_num, rfl, hr, hbr, HS1⟩
                    case measure => simp [intOf]; omega
                  | true =>
                    rw [hxb] at hcb
                    cases hxa : L.on ns a with
                    | true =>
                      rw [hxa] at hca
                      have HS1 := Lib.hid (HSk.out fun _ _ => hxa)
                      clear hxb hxa HSk HTu HQab hfa
                      go_wp2_with fail
                      go_roundw
                      case rel => exact ⟨ns, nb, b + 1, by omega, by go_num, rfl, hr, hbr, HS1⟩
                      case measure => simp [intOf]; omega
                    | false =>
                      rw [hxa] at hca
                      cases hq : L.leq us a b with
                      | false =>
                        rw [hq] at HQab
                        have HS1 := Lib.hid (HSk.out fun _ h => (by rw [hq] at h; cases h))
                        clear hxb hxa hq HSk HTu hfa
                        go_wp2_with fail
                        refine HQab.out.mono ?_
                        rintro e w' ⟨rfl, rfl⟩
                        go_wp2_with fail
                        go_roundw
                        case rel => exact ⟨ns, nb, b + 1, by omega, by go_num, rfl, hr, hbr, HS1⟩
                        case measure => simp [intOf]; omega
                      | true =>
                        rw [hq] at HQab
                        have HT1 := Lib.hid (HTu.out hxb hq hxa)
                        clear hxb hxa hq HSk HTu
                        go_wp2_with fail
                        refine HQab.out.mono ?_
                        rintro e w' ⟨rfl, rfl⟩
                        go_wp2_with fail
                        go_roundw
                        case rel => exact ⟨ns.set a true, true, b + 1, by omega, by go_num, rfl, bown_store hr.out a true, hbr.setCell hbg _, HT1⟩
                        case measure => simp [intOf]; omega
                · obtain rfl : n = b := by omega
                  have HPA : Hid (L.RPass us l s c0 ns nb (L.doneF us (a + 1) 0)) := by
                    have := HPB.out
                    rw [← HN.out] at this
                    exact this.nextA
                  clear HPB
                  go_wp2_with fail
                  go_roundw
                  case rel => exact ⟨ns, nb, a + 1, by omega, by go_num, rfl, hr, hbr, HPA⟩
                  case measure => simp [intOf]; omega
            · obtain rfl : n = a := by omega
              have HPG : Hid (L.RPass us l s c0 ns nb (L.doneG us l 0)) := by
                have := HPA.out
                rw [← HN.out] at this
                exact this.toG
              have hrb := hr
              have hbrb := hbr
              clear hr hbr HPA
              go_wp2_with fail
              go_loopw [9, 12] (fun m i wr => ∃ (ns : List Bool) (nb : Bool) (k : Nat), k ≤ l.length ∧ i = .int .i64 k ∧ m = .bool nb ∧ Hid (wr.ownsRow w.heap.size 4 1 (.slice (some ⟨g, 0, none⟩) n n) n (bCells ns)) ∧ Below w.heap.size w wr ∧ Hid (L.RPass us l s c0 ns nb (L.doneG us l k))) (fun _ i _ => l.length - (intOf i).toNat)
              case atStart => exact ⟨ns, nb, 0, by omega, rfl, rfl, hrb, hbrb, HPG⟩
              case round =>
                clear hrb hbrb HPG
                obtain ⟨ns, nb, k, hk, rfl, rfl, hr, hbr, HPG⟩ := hrel
                by_cases hkl : k < l.length
                · obtain ⟨b, off, rfl, hc⟩ := Gs.at3 (Three.Ss.below HL.out hbr) hkl
                  obtain ⟨p0, p1, p2⟩ := hc k hkl
                  have hlen : ns.length = n := HPG.out.inv.len.trans HN.out
                  have hkI : (k : Int) < (l.length : Int) := by omega
                  have HFk := Lib.hid (HF.out l[k] wr hbr)
                  have HCk : Hid (∀ W, Below w.heap.size w W → W.cell? ⟨b, off + k * 3, none⟩ = some (.int .i64 l[k].1) ∧ W.cell? ⟨b, off + k * 3 + 1, none⟩ = some (.int .i64 l[k].2.1) ∧ W.cell? ⟨b, off + k * 3 + 2, none⟩ = some (.int .i64 l[k].2.2)) := fun W hW => by
                    obtain ⟨b', off', e, h⟩ := Gs.at3 (Three.Ss.below HL.out hW) hkl
                    obtain ⟨rfl, rfl⟩ : b = b' ∧ off = off' := by simpa using e
                    exact h k hkl
                  have HSk : Hid ((L.fits us l[k] = true → L.on ns l[k].2.2.toNat = true → L.on ns l[k].1.toNat = true ∧ L.on ns l[k].2.1.toNat = true) → L.RPass us l s c0 ns nb (L.doneG us l (k + 1))) := fun h => HPG.out.skipG hkl h
                  have HTu : Hid (∀ a f t : Nat, l[k] = ((a : Int), (f : Int), (t : Int)) → L.fits us l[k] = true → a < n → f < n → L.on ns t = true → (L.on ns a = false ∨ L.on ns f = false) → L.RPass us l s c0 ((ns.set a true).set f true) true (L.doneG us l (k + 1))) := fun a f t hg hf ha hff hx hn => HPG.out.turnG hkl hg hf (by rw [HN.out]; exact ha) (by rw [HN.out]; exact hff) hx hn _
                  clear HPG hc
                  obtain ⟨y, hy⟩ : ∃ y, l[k] = y := ⟨_, rfl⟩
                  rw [hy] at p0 p1 p2 HFk HCk HSk HTu
                  clear hy
                  cases hft : L.fits us y with
                  | false =>
                    rw [hft] at HFk
                    have HS1 := Lib.hid (HSk.out fun h => (by rw [hft] at h; cases h))
                    obtain ⟨y0, y1, y2⟩ := y
                    simp only [] at p0 p1 p2
                    clear hft HSk HTu HCk
                    go_wp2_with fail
                    refine HFk.out.mono ?_
                    rintro e w5 ⟨rfl, hx⟩
                    have hb5 := below_next hbr hx
                    have hr5 := Lib.hid (ownsRow.below hr.out hx)
                    clear hx HFk p0 p1 p2 hr hbr
                    go_wp2_with fail
                    go_roundw
                    case rel => exact ⟨ns, nb, k + 1, by omega, by go_num, rfl, hr5, hb5, HS1⟩
                    case measure => simp [intOf]; omega
                  | true =>
                    rw [hft] at HFk
                    obtain ⟨a, f, t, rfl, -, ha, hf, htt⟩ := L.fits_nat hft
                    rw [HN.out] at ha hf htt
                    simp only [] at p0 p1 p2
                    have haI : (a : Int) < (n : Int) := by omega
                    have hfI : (f : Int) < (n : Int) := by omega
                    have htI : (t : Int) < (n : Int) := by omega
                    have ha0 : (0 : Int) ≤ (a : Int) := by omega
                    have hf0 : (0 : Int) ≤ (f : Int) := by omega
                    have ht0 : (0 : Int) ≤ (t : Int) := by omega
                    simp only [Int.toNat_natCast] at HSk
                    cases hxt : L.on ns t with
                    | false =>
                      have HS1 := Lib.hid (HSk.out fun _ h => (by rw [hxt] at h; cases h))
                      go_wp2_with fail
                      refine HFk.out.mono ?_
                      rintro e w5 ⟨rfl, hx⟩
                      have hb5 := below_next hbr hx
                      have hr5 := Lib.hid (ownsRow.below hr.out hx)
                      obtain ⟨c0', c1', c2'⟩ := HCk.out w5 hb5
                      have ct := bown_cell hr5.out t (by omega)
                      rw [hxt] at ct
                      clear hx HFk p0 p1 p2 hr hbr HSk HTu HCk hxt hft
                      go_wp2_with fail
                      go_roundw
                      case rel => exact ⟨ns, nb, k + 1, by omega, by go_num, rfl, hr5, hb5, HS1⟩
                      case measure => simp [intOf]; omega
                    | true =>
                      by_cases hboth : L.on ns a = true ∧ L.on ns f = true
                      · have HS1 := Lib.hid (HSk.out fun _ _ => hboth)
                        go_wp2_with fail
                        refine HFk.out.mono ?_
                        rintro e w5 ⟨rfl, hx⟩
                        have hb5 := below_next hbr hx
                        have hr5 := Lib.hid (ownsRow.below hr.out hx)
                        obtain ⟨c0', c1', c2'⟩ := HCk.out w5 hb5
                        have ct := bown_cell hr5.out t (by omega)
                        have ca := bown_cell hr5.out a (by omega)
                        have cf := bown_cell hr5.out f (by omega)
                        rw [hxt] at ct
                        rw [hboth.1] at ca
                        rw [hboth.2] at cf
                        clear hx HFk p0 p1 p2 hr hbr HSk HTu HCk hxt hft hboth
                        go_wp2_with fail
                        go_roundw
                        case rel => exact ⟨ns, nb, k + 1, by omega, by go_num, rfl, hr5, hb5, HS1⟩
                        case measure => simp [intOf]; omega
                      · cases hxa : L.on ns a with
                        | false =>
                          have HT1 := Lib.hid (HTu.out a f t rfl hft ha hf hxt (.inl hxa))
                          go_wp2_with fail
                          refine HFk.out.mono ?_
                          rintro e w5 ⟨rfl, hx⟩
                          have hb5 := below_next hbr hx
                          have hr5 := Lib.hid (ownsRow.below hr.out hx)
                          obtain ⟨c0', c1', c2'⟩ := HCk.out w5 hb5
                          have ct := bown_cell hr5.out t (by omega)
                          have ca := bown_cell hr5.out a (by omega)
                          have cf := bown_cell hr5.out f (by omega)
                          have fa := hr5.out.frozenAt a
                          have ff := hr5.out.frozenAt f
                          rw [hxt] at ct
                          rw [hxa] at ca
                          
                          have hb6 := hb5.setCell (p := ⟨g, a, none⟩) hbg (.bool true)
                          have hr6 := Lib.hid (bown_store hr5.out a true)
                          obtain ⟨d0', d1', d2'⟩ := HCk.out _ hb6
                          have cf6 := bown_cell hr6.out f (by rw [List.length_set]; omega)
                          have ff6 := hr6.out.frozenAt f
                          have hb7 := hb6.setCell (p := ⟨g, f, none⟩) hbg (.bool true)
                          have hr7 := Lib.hid (bown_store hr6.out f true)
                          clear hx HFk p0 p1 p2 hr hbr HSk HTu HCk hxt hft hboth hxa hr5 hr6 hb5 hb6
                          go_wp2_with fail
                          go_roundw
                          case rel => exact ⟨_, true, k + 1, by omega, by go_num, rfl, hr7, hb7, HT1⟩
                          case measure => simp [intOf]; omega
                        | true =>
                          have hxf : L.on ns f = false := by
                            cases h : L.on ns f with
                            | false => rfl
                            | true => exact absurd ⟨hxa, h⟩ hboth
                          have HT1 := Lib.hid (HTu.out a f t rfl hft ha hf hxt (.inr hxf))
                          go_wp2_with fail
                          refine HFk.out.mono ?_
                          rintro e w5 ⟨rfl, hx⟩
                          have hb5 := below_next hbr hx
                          have hr5 := Lib.hid (ownsRow.below hr.out hx)
                          obtain ⟨c0', c1', c2'⟩ := HCk.out w5 hb5
                          have ct := bown_cell hr5.out t (by omega)
                          have ca := bown_cell hr5.out a (by omega)
                          have cf := bown_cell hr5.out f (by omega)
                          have fa := hr5.out.frozenAt a
                          have ff := hr5.out.frozenAt f
                          rw [hxt] at ct
                          rw [hxa] at ca
                          rw [hxf] at cf
                          have hb6 := hb5.setCell (p := ⟨g, a, none⟩) hbg (.bool true)
                          have hr6 := Lib.hid (bown_store hr5.out a true)
                          obtain ⟨d0', d1', d2'⟩ := HCk.out _ hb6
                          have cf6 := bown_cell hr6.out f (by rw [List.length_set]; omega)
                          have ff6 := hr6.out.frozenAt f
                          have hb7 := hb6.setCell (p := ⟨g, f, none⟩) hbg (.bool true)
                          have hr7 := Lib.hid (bown_store hr6.out f true)
                          clear hx HFk p0 p1 p2 hr hbr HSk HTu HCk hxt hft hboth hxa hr5 hr6 hb5 hb6 hxf
                          go_wp2_with fail
                          go_roundw
                          case rel => exact ⟨_, true, k + 1, by omega, by go_num, rfl, hr7, hb7, HT1⟩
                          case measure => simp [intOf]; omega
                · obtain rfl : k = l.length := by omega
                  have HM : Hid (L.RInv us l s ns) := HPG.out.inv
                  have HZ : Hid (nb = false → ofBits us.length (L.on ns) = L.srcs us l s) := fun h => by
                    have := HPG.out
                    rw [h] at this
                    exact this.shut
                  have hcn : ns.count true ≤ n := by
                    have := List.count_le_length (a := true) (l := ns)
                    rw [HPG.out.inv.len, HN.out] at this
                    exact this
                  have HQ2 : Hid (2 * (n - ns.count true) + (if nb then 1 else 0) < gk) := by
                    have h1 := HP1.out
                    have h2 := HPG.out.le
                    cases nb with
                    | false => unfold Hid; rw [if_neg (by decide)]; omega
                    | true => have := HPG.out.more rfl; unfold Hid; rw [if_pos rfl]; omega
                  clear HPG HP1 hcn
                  go_wp2_with fail
                  go_roundg (2 * (n - ns.count true) + (if nb then 1 else 0))
                  case measure => exact HQ2.out
                  case rel => exact ⟨ns, nb, rfl, hr, hbr, HM, Nat.le_refl _, HZ⟩
end Go.Proofs.YtnfhhhcbgipmcaaDoor
