/- The sources of labels: the least set that is closed. No program. -/
import Derived.Test.YtnfhhhcbgipmcaaDoorCheckPlain
import Derived.Test.YtnfhhhcbgipmcaaDoorGr
namespace Go.Proofs.YtnfhhhcbgipmcaaDoor.L

inductive Src (us : List Nat) (l : List Gr) (s : Nat) : Nat → Prop
  | base {b : Nat} (hb : b < us.length) (h : s.testBit b = true) : Src us l s b
  | flow {a b : Nat} (h : Src us l s b) (ha : a < us.length) (hf : leq us a b = true) : Src us l s a
  | actor {g : Gr} (hg : g ∈ l) (hf : fits us g = true) (h : Src us l s g.2.2.toNat) : Src us l s g.1.toNat
  | source {g : Gr} (hg : g ∈ l) (hf : fits us g = true) (h : Src us l s g.2.2.toNat) : Src us l s g.2.1.toNat

theorem leq_lab {us : List Nat} {a b : Int} (h : leq us a b = true) : lab us a = true ∧ lab us b = true := by
  unfold leq at h
  simp only [Bool.and_eq_true] at h
  exact h.1
/-- A grant that fits is of labels. -/
theorem fits_lab {us : List Nat} {g : Gr} (h : fits us g = true) : lab us g.1 = true ∧ lab us g.2.1 = true ∧ lab us g.2.2 = true := by
  unfold fits at h
  simp only [Bool.and_eq_true] at h
  exact ⟨(leq_lab h.1.1).2, (leq_lab h.1.1).1, (leq_lab h.1.2).1⟩
theorem fits_nat {us : List Nat} {g : Gr} (h : fits us g = true) : ∃ a f t : Nat, g = ((a : Int), (f : Int), (t : Int)) ∧ us.length ≤ 64 ∧ a < us.length ∧ f < us.length ∧ t < us.length := by
  obtain ⟨h1, h2, h3⟩ := fits_lab h
  obtain ⟨g0, g1, g2⟩ := g
  obtain ⟨q0, q1, q2⟩ := lab_iff.1 h1
  obtain ⟨-, r1, r2⟩ := lab_iff.1 h2
  obtain ⟨-, s1, s2⟩ := lab_iff.1 h3
  simp only [] at q1 q2 r1 r2 s1 s2
  refine ⟨g0.toNat, g1.toNat, g2.toNat, ?_, q0, by omega, by omega, by omega⟩
  rw [Int.toNat_of_nonneg q1, Int.toNat_of_nonneg r1, Int.toNat_of_nonneg s1]
theorem Src.lt {us : List Nat} {l : List Gr} {s b : Nat} (h : Src us l s b) : b < us.length := by
  cases h with
  | base hb _ => exact hb
  | flow _ ha _ => exact ha
  | actor hg hf _ => obtain ⟨a, f, t, rfl, -, h1, h2, h3⟩ := fits_nat hf; simpa using h1
  | source hg hf _ => obtain ⟨a, f, t, rfl, -, h1, h2, h3⟩ := fits_nat hf; simpa using h2
noncomputable def srcs (us : List Nat) (l : List Gr) (s : Nat) : Nat := ofBits us.length fun i => @decide (Src us l s i) (Classical.propDecidable _)
theorem testBit_srcs {us : List Nat} {l : List Gr} {s i : Nat} : (srcs us l s).testBit i = true ↔ Src us l s i := by
  unfold srcs
  rw [testBit_ofBits, Bool.and_eq_true, decide_eq_true_eq, @decide_eq_true_eq _ (Classical.propDecidable _)]
  exact ⟨fun h => h.2, fun h => ⟨h.lt, h⟩⟩
theorem srcs_lt (us : List Nat) (l : List Gr) (s : Nat) : srcs us l s < 2 ^ us.length := ofBits_lt _ _

/-- A set of labels that is closed. -/
structure Shut (us : List Nat) (l : List Gr) (y : Nat) : Prop where
  flow : ∀ a b : Nat, y.testBit b = true → leq us a b = true → y.testBit a = true
  grant : ∀ g, g ∈ l → fits us g = true → y.testBit g.2.2.toNat = true → y.testBit g.1.toNat = true ∧ y.testBit g.2.1.toNat = true
theorem Src.into {us : List Nat} {l : List Gr} {s y i : Nat} (hb : ∀ b, b < us.length → s.testBit b = true → y.testBit b = true) (hc : Shut us l y) (h : Src us l s i) : y.testBit i = true := by
  induction h with
  | base hb' h => exact hb _ hb' h
  | flow _ ha hf ih => exact hc.flow _ _ ih hf
  | actor hg hf _ ih => exact (hc.grant _ hg hf ih).1
  | source hg hf _ ih => exact (hc.grant _ hg hf ih).2
theorem srcs_eq {us : List Nat} {l : List Gr} {s y : Nat} (hs : ∀ i, y.testBit i = true → Src us l s i) (hb : ∀ b, b < us.length → s.testBit b = true → y.testBit b = true) (hc : Shut us l y) : y = srcs us l s := by
  apply Nat.eq_of_testBit_eq
  intro i
  rw [Bool.eq_iff_iff, testBit_srcs]
  exact ⟨hs i, fun h => h.into hb hc⟩

/-- What is below some labels. -/
def orDowns (us : List Nat) (cs : List Nat) : Nat := cs.foldl (fun x (a : Nat) => x ||| down us a) 0
theorem orDowns_snoc (us cs : List Nat) (a : Nat) : orDowns us (cs ++ [a]) = orDowns us cs ||| down us a := by simp [orDowns]
theorem orDowns_from (us : List Nat) : ∀ (cs : List Nat) (x i : Nat), (cs.foldl (fun x (a : Nat) => x ||| down us a) x).testBit i = (x.testBit i || cs.any fun (a : Nat) => leq us i a)
  | [], x, i => by simp
  | a :: cs, x, i => by
    rw [List.foldl_cons, orDowns_from us cs, Nat.testBit_or, testBit_down, List.any_cons, Bool.or_assoc]
theorem testBit_orDowns (us cs : List Nat) (i : Nat) : (orDowns us cs).testBit i = cs.any fun (a : Nat) => leq us i a := by
  unfold orDowns
  rw [orDowns_from, Nat.zero_testBit, Bool.false_or]
theorem orDowns_lt (us cs : List Nat) : orDowns us cs < 18446744073709551616 := by
  refine Nat.lt_pow_two_of_testBit (n := 64) _ fun i hi => ?_
  rw [testBit_orDowns, List.any_eq_false]
  intro a _ h
  have := lab_iff.1 (leq_lab h).1
  omega
def belowB (us : List Nat) (x : Nat) : Nat := orDowns us (bitsOf x)
theorem belowB_iff {us : List Nat} {x i : Nat} (hx : x < 2 ^ 64) : (belowB us x).testBit i = true ↔ ∃ a : Nat, x.testBit a = true ∧ leq us i a = true := by
  unfold belowB
  rw [testBit_orDowns, List.any_eq_true]
  constructor
  · rintro ⟨a, ha, h⟩; exact ⟨a, (mem_bitsOf hx).1 ha, h⟩
  · rintro ⟨a, ha, h⟩; exact ⟨a, (mem_bitsOf hx).2 ha, h⟩
theorem belowB_lt (us : List Nat) (x : Nat) : belowB us x < 2 ^ us.length := by
  refine Nat.lt_pow_two_of_testBit _ fun i hi => ?_
  unfold belowB
  rw [testBit_orDowns, List.any_eq_false]
  intro a _ h
  have := lab_iff.1 (leq_lab h).1
  omega

/-- What grants bring, of some labels. -/
def more1 (x m : Nat) (g : Gr) : Nat := if x.testBit g.2.2.toNat then m ||| (2 ^ g.1.toNat ||| 2 ^ g.2.1.toNat) else m
def mores (x : Nat) (gs : List Gr) : Nat := gs.foldl (more1 x) x
theorem mores_snoc (x : Nat) (gs : List Gr) (g : Gr) : mores x (gs ++ [g]) = more1 x (mores x gs) g := by simp [mores]
theorem testBit_pow {k i : Nat} : (2 ^ k).testBit i = true ↔ i = k := by
  rw [Nat.testBit_two_pow, decide_eq_true_eq]
  exact eq_comm
theorem mores_from (x : Nat) : ∀ (gs : List Gr) (m i : Nat), (gs.foldl (more1 x) m).testBit i = true ↔ m.testBit i = true ∨ ∃ g, g ∈ gs ∧ x.testBit g.2.2.toNat = true ∧ (i = g.1.toNat ∨ i = g.2.1.toNat)
  | [], m, i => by simp
  | g :: gs, m, i => by
    rw [List.foldl_cons, mores_from x gs]
    have h1 : (more1 x m g).testBit i = true ↔ m.testBit i = true ∨ (x.testBit g.2.2.toNat = true ∧ (i = g.1.toNat ∨ i = g.2.1.toNat)) := by
      unfold more1
      split
      · rename_i h
        rw [Nat.testBit_or, Nat.testBit_or, Bool.or_eq_true, Bool.or_eq_true, testBit_pow, testBit_pow]
        simp [h]
      · rename_i h
        simp [h]
    rw [h1]
    simp only [List.mem_cons, exists_eq_or_imp]
    constructor
    · rintro ((h | h) | h)
      · exact .inl h
      · exact .inr (.inl h)
      · exact .inr (.inr h)
    · rintro (h | h | h)
      · exact .inl (.inl h)
      · exact .inl (.inr h)
      · exact .inr h
theorem mores_iff (x : Nat) (gs : List Gr) (i : Nat) : (mores x gs).testBit i = true ↔ x.testBit i = true ∨ ∃ g, g ∈ gs ∧ x.testBit g.2.2.toNat = true ∧ (i = g.1.toNat ∨ i = g.2.1.toNat) := mores_from x gs x i
theorem mores_lt {us : List Nat} {x : Nat} (hx : x < 2 ^ us.length) {gs : List Gr} (hg : ∀ g ∈ gs, fits us g = true) : mores x gs < 2 ^ us.length := by
  refine Nat.lt_pow_two_of_testBit _ fun i hi => ?_
  rw [Bool.eq_false_iff]
  intro h
  rcases (mores_iff x gs i).1 h with h | ⟨g, hm, -, h⟩
  · rw [Nat.testBit_lt_two_pow (Nat.lt_of_lt_of_le hx (Nat.pow_le_pow_right (by decide) hi))] at h; cases h
  · obtain ⟨a, f, t, rfl, -, h1, h2, h3⟩ := fits_nat (hg g hm)
    simp only [Int.toNat_natCast] at h
    omega

/-- The sources so far. -/
structure SrcInv (us : List Nat) (l : List Gr) (s x : Nat) : Prop where
  lt : x < 2 ^ us.length
  sound : ∀ i, x.testBit i = true → Src us l s i
  base : ∀ b, b < us.length → s.testBit b = true → x.testBit b = true
  flow : ∀ a b : Nat, x.testBit b = true → leq us a b = true → x.testBit a = true
theorem leq_same {us : List Nat} (h : Lat us) {b : Nat} (hb : b < us.length) : leq us b b = true := by rw [leq_bit h.few hb hb]; exact h.order.same b hb
theorem leq_trans {us : List Nat} (h : Lat us) {a b c : Nat} (h1 : leq us a b = true) (h2 : leq us b c = true) : leq us a c = true := by
  obtain ⟨la, lb⟩ := leq_lab h1
  obtain ⟨-, lc⟩ := leq_lab h2
  have ha : a < us.length := by have := lab_iff.1 la; omega
  have hb : b < us.length := by have := lab_iff.1 lb; omega
  have hc : c < us.length := by have := lab_iff.1 lc; omega
  rw [leq_bit h.few ha hb] at h1
  rw [leq_bit h.few hb hc] at h2
  rw [leq_bit h.few ha hc]
  exact h.order.trans a b c ha hb hc h1 h2
theorem leq_ltL {us : List Nat} {a b : Nat} (h : leq us a b = true) : a < us.length := by have := lab_iff.1 (leq_lab h).1; omega
theorem leq_ltR {us : List Nat} {a b : Nat} (h : leq us a b = true) : b < us.length := by have := lab_iff.1 (leq_lab h).2; omega
theorem below_inv {us : List Nat} (h : Lat us) {l : List Gr} {s y : Nat} (hy : y < 2 ^ 64) (hs : ∀ i, i < us.length → y.testBit i = true → Src us l s i) (hb : ∀ b, b < us.length → s.testBit b = true → y.testBit b = true) : SrcInv us l s (belowB us y) := by
  refine ⟨belowB_lt us y, fun i hi => ?_, fun b hb' h' => ?_, fun a b hb' hab => ?_⟩
  · obtain ⟨a, h1, h2⟩ := (belowB_iff hy).1 hi
    exact .flow (hs a (leq_ltR h2) h1) (leq_ltL h2) h2
  · exact (belowB_iff hy).2 ⟨b, hb b hb' h', leq_same h hb'⟩
  · obtain ⟨c, h1, h2⟩ := (belowB_iff hy).1 hb'
    exact (belowB_iff hy).2 ⟨c, h1, leq_trans h hab h2⟩
theorem inv_start {us : List Nat} (h : Lat us) (l : List Gr) {s : Nat} (hs : s < 2 ^ 64) : SrcInv us l s (belowB us s) := below_inv h hs (fun _ hi h => .base hi h) (fun _ _ h => h)
def stepB (us : List Nat) (l : List Gr) (x : Nat) : Nat := belowB us (mores x (l.filter (fits us)))
theorem p64 {n x : Nat} (h : n ≤ 64) (hx : x < 2 ^ n) : x < 2 ^ 64 := Nat.lt_of_lt_of_le hx (Nat.pow_le_pow_right (by decide) h)
theorem inv_step {us : List Nat} (h : Lat us) {l : List Gr} {s x : Nat} (hi : SrcInv us l s x) : SrcInv us l s (stepB us l x) ∧ (∀ i, x.testBit i = true → (stepB us l x).testBit i = true) := by
  have hm : mores x (l.filter (fits us)) < 2 ^ 64 := p64 h.few (mores_lt hi.lt fun g hg => (List.mem_filter.1 hg).2)
  refine ⟨below_inv h hm (fun i hil hb => ?_) (fun b hb hs => (mores_iff _ _ _).2 (.inl (hi.base b hb hs))), fun i hx => ?_⟩
  · rcases (mores_iff _ _ _).1 hb with h1 | ⟨g, hg, ht, e⟩
    · exact hi.sound i h1
    · obtain ⟨hgl, hf⟩ := List.mem_filter.1 hg
      rcases e with e | e
      · rw [e]; exact .actor hgl hf (hi.sound _ ht)
      · rw [e]; exact .source hgl hf (hi.sound _ ht)
  · exact (belowB_iff hm).2 ⟨i, (mores_iff _ _ _).2 (.inl hx), leq_same h (hi.sound i hx).lt⟩
theorem inv_done {us : List Nat} (h : Lat us) {l : List Gr} {s x : Nat} (hi : SrcInv us l s x) (he : stepB us l x = x) : x = srcs us l s := by
  have hm : mores x (l.filter (fits us)) < 2 ^ 64 := p64 h.few (mores_lt hi.lt fun g hg => (List.mem_filter.1 hg).2)
  have hin : ∀ i, i < us.length → (mores x (l.filter (fits us))).testBit i = true → x.testBit i = true := fun i hil h' => by
    have : (stepB us l x).testBit i = true := (belowB_iff hm).2 ⟨i, h', leq_same h hil⟩
    rwa [he] at this
  refine srcs_eq hi.sound hi.base ⟨hi.flow, fun g hg hf ht => ?_⟩
  have hgf : g ∈ l.filter (fits us) := List.mem_filter.2 ⟨hg, hf⟩
  obtain ⟨a, f, t, rfl, -, h1, h2, h3⟩ := fits_nat hf
  exact ⟨hin _ (by simpa using h1) ((mores_iff _ _ _).2 (.inr ⟨_, hgf, ht, .inl rfl⟩)), hin _ (by simpa using h2) ((mores_iff _ _ _).2 (.inr ⟨_, hgf, ht, .inr rfl⟩))⟩
theorem inv_lt {us : List Nat} (h : Lat us) {l : List Gr} {s x : Nat} (hi : SrcInv us l s x) (hne : stepB us l x ≠ x) : x < stepB us l x := by
  have hor : x ||| stepB us l x = stepB us l x := by
    apply Nat.eq_of_testBit_eq
    intro i
    rw [Nat.testBit_or]
    cases hx : x.testBit i with
    | false => rfl
    | true => rw [(inv_step h hi).2 i hx]; rfl
  have : x ≤ x ||| stepB us l x := Nat.left_le_or
  omega
end Go.Proofs.YtnfhhhcbgipmcaaDoor.L
