/- Sets of labels, and what can be noticed of operations: the plain laws of PurgeGrows and PurgeChains. -/
import Derived.Test.YtljpfocmnppjgaaDoorOp10
import Derived.Test.YtljpfocmnppjgaaDoorOp15
namespace Go.Proofs.YtljpfocmnppjgaaDoor
namespace L

/-- All bits of the first are bits of the second. -/
def Sub (s t : Nat) : Prop := ∀ i, s.testBit i = true → t.testBit i = true
theorem Sub.refl (s : Nat) : Sub s s := fun _ h => h
theorem Sub.trans {s t u : Nat} (h : Sub s t) (k : Sub t u) : Sub s u := fun i hi => k i (h i hi)
theorem Sub.or {s t : Nat} (h : Sub s t) : s ||| t = t := by
  apply Nat.eq_of_testBit_eq
  intro i
  rw [Nat.testBit_or]
  cases hs : s.testBit i with
  | false => rfl
  | true => rw [h i hs]; rfl
theorem Sub.ro {s t : Nat} (h : Sub s t) : t ||| s = t := by rw [Nat.or_comm]; exact h.or
theorem Sub.left (s t : Nat) : Sub s (s ||| t) := fun i h => by rw [Nat.testBit_or, h]; rfl
theorem Sub.right (s t : Nat) : Sub t (s ||| t) := fun i h => by rw [Nat.testBit_or, h, Bool.or_true]
theorem Sub.both {s t u : Nat} (h : Sub s u) (k : Sub t u) : Sub (s ||| t) u := fun i hi => by
  rw [Nat.testBit_or, Bool.or_eq_true] at hi
  rcases hi with hi | hi
  · exact h i hi
  · exact k i hi
theorem Sub.inn {s t : Nat} (h : Sub s t) {x : Int} (hx : L.inn s x = true) : L.inn t x = true := by
  unfold L.inn at *
  simp only [Bool.and_eq_true, decide_eq_true_eq] at *
  exact ⟨hx.1, hx.2.1, h _ hx.2.2⟩
theorem flows_mono {gs gs' : List Gr} (hg : ∀ g ∈ gs', g ∈ gs) {s' s : Nat} (h : Sub s' s) {o : Opr} (hf : flows gs' o s' = true) : flows gs o s = true := by
  unfold flows at *
  simp only [Bool.and_eq_true, decide_eq_true_eq, List.contains_iff_mem] at *
  exact ⟨hf.1, h.inn hf.2.1, hg _ hf.2.2⟩
theorem step_grows (us : List Nat) (gs : List Gr) (o : Opr) (s : Nat) : Sub s (step us gs o s) := by
  unfold step
  split
  · exact Sub.left _ _
  · exact Sub.refl _
theorem step_mono {us : List Nat} {gs gs' : List Gr} (hg : ∀ g ∈ gs', g ∈ gs) {s' s : Nat} (h : Sub s' s) (o : Opr) : Sub (step us gs' o s') (step us gs o s) := by
  cases hf : flows gs' o s' with
  | false =>
    have e : step us gs' o s' = s' := by unfold step; rw [hf]; rfl
    rw [e]
    exact h.trans (step_grows _ _ _ _)
  | true =>
    have e : step us gs' o s' = s' ||| down us o.level := by unfold step; rw [hf]; rfl
    have e2 : step us gs o s = s ||| down us o.level := by unfold step; rw [flows_mono hg h hf]; rfl
    rw [e, e2]
    exact (h.trans (Sub.left _ _)).both (Sub.right _ _)
theorem cur_mono {us : List Nat} {gs gs' : List Gr} (hg : ∀ g ∈ gs', g ∈ gs) {d' d : Nat} (h : Sub d' d) : ∀ l, Sub (cur us gs' d' l) (cur us gs d l)
  | [] => h
  | o :: l => step_mono hg (cur_mono hg h l) o
theorem cur_has (us : List Nat) (gs : List Gr) (d : Nat) : ∀ l, Sub d (cur us gs d l)
  | [] => Sub.refl _
  | o :: l => (cur_has us gs d l).trans (step_grows _ _ _ _)
theorem cur_none (us : List Nat) (d : Nat) : ∀ l, cur us [] d l = d
  | [] => rfl
  | o :: l => by
    show step us [] o (cur us [] d l) = d
    rw [cur_none us d l]
    unfold step flows
    simp
theorem cur_next (us : List Nat) (gs : List Gr) (d : Nat) (l : List Opr) (k : Nat) : Sub (cur us gs d (l.drop (k + 1))) (cur us gs d (l.drop k)) := by
  by_cases h : k < l.length
  · rw [cur_step h]
    exact step_grows _ _ _ _
  · rw [List.drop_of_length_le (by omega), List.drop_of_length_le (by omega)]
    exact Sub.refl _
theorem down_sub {us : List Nat} (h : Lat us) {a b : Nat} (ha : a < us.length) (hb : b < us.length) (hab : leq us a b = true) : Sub (down us a) (down us b) := by
  intro i hi
  rw [testBit_down] at hi ⊢
  have hil : i < us.length := by
    rcases Nat.lt_or_ge i us.length with hi' | hi'
    · exact hi'
    · have : lab us i = false := by rw [Bool.eq_false_iff]; intro h'; have := lab_iff.1 h'; omega
      rw [leq_of_not_left this] at hi; cases hi
  rw [leq_bit h.few hil ha] at hi
  rw [leq_bit h.few ha hb] at hab
  rw [leq_bit h.few hil hb]
  exact h.order.trans i a b hil ha hb hi hab
theorem inn_down {us : List Nat} (x a : Int) : inn (down us x) a = leq us a x := by
  unfold inn
  by_cases h0 : 0 ≤ a
  · by_cases h1 : a < 64
    · simp only [h0, h1, decide_true, Bool.true_and]
      rw [testBit_down, Int.toNat_of_nonneg h0]
    · have : leq us a x = false := leq_of_not_left (by rw [Bool.eq_false_iff]; intro h'; have := lab_iff.1 h'; omega) _
      simp [h1, this]
  · have : leq us a x = false := leq_of_not_left (by rw [Bool.eq_false_iff]; intro h'; have := lab_iff.1 h'; omega) _
    simp [h0, this]
theorem fits_mem {us : List Nat} {gs : List Gr} (h : gcheck us gs = true) {g : Gr} (hg : g ∈ gs) : fits us g = true := by
  unfold gcheck at h
  rw [Bool.and_eq_true, List.all_eq_true] at h
  obtain ⟨i, hi, rfl⟩ := List.mem_iff_getElem.1 hg
  have h1 := h.1 i (List.mem_range.2 hi)
  unfold gok at h1
  rw [Bool.and_eq_true, List.getD_eq_getElem?_getD, List.getElem?_eq_getElem hi, Option.getD_some] at h1
  exact h1.1
theorem flows_has {us : List Nat} {gs : List Gr} (h : Lat us) (hg : gcheck us gs = true) {o : Opr} {s : Nat} (hf : flows gs o s = true) : inn (down us o.level) o.level = true := by
  unfold flows at hf
  simp only [Bool.and_eq_true, decide_eq_true_eq, List.contains_iff_mem] at hf
  have h1 := fits_mem hg hf.2.2
  unfold fits at h1
  simp only [Bool.and_eq_true] at h1
  have h2 : leq us o.label o.level = true := h1.1.1
  have h3 : lab us o.level = true := by
    cases hl : lab us o.level with
    | true => rfl
    | false => rw [leq_of_not_right hl] at h2; cases h2
  obtain ⟨-, h4, h5⟩ := lab_iff.1 h3
  rw [inn_down]
  obtain ⟨n, hn⟩ := Int.eq_ofNat_of_zero_le h4
  rw [hn] at h5 ⊢
  have h6 : n < us.length := by omega
  rw [leq_bit h.few h6 h6]
  exact h.order.same n h6

/-- What is noticed, from an operation on. -/
theorem purges_cons (us : List Nat) (gs : List Gr) (d : Nat) (o : Opr) (l : List Opr) : purges us gs d (o :: l) = pick (inn (cur us gs d (o :: l))) o ++ purges us gs d l := by
  unfold purges purgeTo
  rw [List.length_cons, List.range_succ_eq_map, List.flatMap_cons, List.flatMap_map]
  rfl
theorem keeps_keeps (p : Int → Bool) (l : List (List UInt8)) : keeps p (keeps p l) = keeps p l := by
  apply List.ext_getElem
  · simp [keeps_length]
  · intro i h1 h2
    rw [keeps_at h1, keeps_at h2]
    by_cases hp : p (i : Int) = true
    · simp only [hp, if_true]
    · simp only [hp, if_false]
      simp
theorem trim_kind (p : Int → Bool) (o : Opr) : (trim p o).kind = o.kind := by
  unfold trim
  split
  · split <;> rfl
  · rfl
theorem trim_trim (p : Int → Bool) (o : Opr) : trim p (trim p o) = trim p o := by
  by_cases hk : o.kind = 16
  · by_cases hp : p o.level = true
    · have e : trim p o = { o with keep := keeps p o.keep } := by unfold trim; rw [if_pos hk, if_pos hp]
      rw [e]
      unfold trim
      rw [if_pos (by exact hk), if_pos (by exact hp)]
      simp only [keeps_keeps]
    · have e : trim p o = { o with keep := keeps p o.keep, level := 0, ses := 0, n := 0 } := by unfold trim; rw [if_pos hk, if_neg hp]
      rw [e]
      unfold trim
      rw [if_pos (by exact hk)]
      split <;> simp only [keeps_keeps]
  · rw [trim_kept hk, trim_kept hk]
theorem trim_len (p : Int → Bool) (o : Opr) : (trim p o).keep.length = o.keep.length := by
  by_cases hk : o.kind = 16
  · rw [trim_keep hk, keeps_length]
  · rw [trim_kept hk]
theorem pick_trim {p : Int → Bool} {o : Opr} (h : seen p o = true) : pick p (trim p o) = [trim p o] := by
  have h2 : seen p (trim p o) = true := by
    by_cases hk : o.kind = 16
    · unfold seen
      rw [trim_kind, hk]
      rfl
    · rw [trim_kept hk]; exact h
  unfold pick
  rw [if_pos h2, trim_trim]
theorem step_trim (us : List Nat) (gs : List Gr) (p : Int → Bool) (o : Opr) (s : Nat) : step us gs (trim p o) s = step us gs o s := by
  by_cases hk : o.kind = 16
  · have h2 : (trim p o).kind = 16 := by rw [trim_kind, hk]
    unfold step flows
    simp [hk, h2]
  · rw [trim_kept hk]
theorem step_still {us : List Nat} {gs : List Gr} {o : Opr} {s : Nat} (h : flows gs o s = false) : step us gs o s = s := by
  unfold step
  rw [h]
  rfl
/-- Purged once more it stays. -/
theorem purges_again {us : List Nat} {gs : List Gr} {d : Nat} (h : Lat us) (hg : gcheck us gs = true) : ∀ l, cur us gs d (purges us gs d l) = cur us gs d l ∧ purges us gs d (purges us gs d l) = purges us gs d l
  | [] => ⟨rfl, rfl⟩
  | o :: l => by
    obtain ⟨h1, h2⟩ := purges_again (d := d) h hg l
    rw [purges_cons]
    have ec : cur us gs d (o :: l) = step us gs o (cur us gs d l) := rfl
    cases hs : seen (inn (cur us gs d (o :: l))) o with
    | true =>
      have ep : pick (inn (cur us gs d (o :: l))) o = [trim (inn (cur us gs d (o :: l))) o] := by unfold pick; rw [if_pos hs]
      rw [ep, List.singleton_append]
      have e1 : cur us gs d (trim (inn (cur us gs d (o :: l))) o :: purges us gs d l) = cur us gs d (o :: l) := by
        have e0 : cur us gs d (trim (inn (cur us gs d (o :: l))) o :: purges us gs d l) = step us gs (trim (inn (cur us gs d (o :: l))) o) (cur us gs d (purges us gs d l)) := rfl
        rw [e0, h1, step_trim]
        rfl
      refine ⟨e1, ?_⟩
      rw [purges_cons, e1, h2, pick_trim hs, List.singleton_append]
    | false =>
      have ep : pick (inn (cur us gs d (o :: l))) o = [] := by unfold pick; rw [if_neg (by rw [hs]; decide)]
      have hf : flows gs o (cur us gs d l) = false := by
        rw [Bool.eq_false_iff]
        intro hf
        have h3 : inn (cur us gs d (o :: l)) o.level = true := by
          refine Sub.inn ?_ (flows_has h hg hf)
          rw [ec]
          unfold step
          rw [if_pos hf]
          exact Sub.right _ _
        unfold seen at hs
        rw [h3] at hs
        simp at hs
      rw [ep, List.nil_append, ec, step_still hf]
      exact ⟨h1, h2⟩
/-- Where no operation flows on, it is what those of the level notice. -/
theorem purges_still {us : List Nat} {gs : List Gr} {x : Int} : ∀ l : List Opr, (∀ i (h : i < l.length), flows gs l[i] (cur us gs (down us x) (l.drop i)) = false) → cur us gs (down us x) l = down us x ∧ purges us gs (down us x) l = l.flatMap (pick fun a => leq us a x)
  | [], _ => ⟨rfl, rfl⟩
  | o :: l, hn => by
    obtain ⟨h1, h2⟩ := purges_still l (fun i h => hn (i + 1) (by simpa using h))
    have h0 : flows gs o (step us gs o (cur us gs (down us x) l)) = false := hn 0 (by simp)
    have hf : flows gs o (cur us gs (down us x) l) = false := by
      rw [Bool.eq_false_iff]
      intro hf
      rw [flows_mono (fun g h => h) (step_grows us gs o _) hf] at h0
      cases h0
    have e2 : cur us gs (down us x) (o :: l) = cur us gs (down us x) l := step_still hf
    refine ⟨e2.trans h1, ?_⟩
    rw [purges_cons, e2, h1, h2, List.flatMap_cons]
    have e3 : inn (down us x) = fun a => leq us a x := funext fun a => inn_down x a
    rw [e3]
theorem purges_few {us : List Nat} {gs : List Gr} {d k : Nat} : ∀ l : List Opr, (∀ o ∈ l, o.keep.length ≤ k) → ∀ o ∈ purges us gs d l, o.keep.length ≤ k
  | [], _, o, ho => by cases ho
  | q :: l, h, o, ho => by
    rw [purges_cons, List.mem_append] at ho
    rcases ho with ho | ho
    · unfold pick at ho
      split at ho
      · rw [List.mem_singleton] at ho
        rw [ho, trim_len]
        exact h q List.mem_cons_self
      · cases ho
    · exact purges_few l (fun o' h' => h o' (List.mem_cons_of_mem _ h')) o ho
end L
end Go.Proofs.YtljpfocmnppjgaaDoor
