/- The plain law of PurgeModel: what of a state sessions of some labels can notice. No program. The plain law of PurgeModel: what sessions are told in two runs, one of them purged. No program of its own. How much is in a state: each operation adds one at most to each list. No program of its own. -/
import Derived.Test.YtmapmeacjpoaoaaDoorPm20
namespace Go.Proofs.YtmapmeacjpoaoaaDoor
namespace M
/-- A list by labels, erased where p says no. -/
def pin {α : Type} (p : Int → Bool) (d : α) (l : List α) : List α := l.mapIdx fun i x => if p (i : Int) then x else d
theorem pin_len {α : Type} (p : Int → Bool) (d : α) (l : List α) : (pin p d l).length = l.length := by simp [pin]
theorem pin_at {α : Type} {p : Int → Bool} {d : α} {l : List α} {i : Nat} (h : i < l.length) : (pin p d l)[i]'(by rw [pin_len]; exact h) = if p (i : Int) then l[i] else d := by simp [pin]
theorem pin_getD {α : Type} {p : Int → Bool} {d : α} {l : List α} {i : Nat} (hp : p (i : Int) = true) : (pin p d l).getD i d = l.getD i d := by
  rw [List.getD_eq_getElem?_getD, List.getD_eq_getElem?_getD]
  by_cases h : i < l.length
  · rw [List.getElem?_eq_getElem h, List.getElem?_eq_getElem (by rw [pin_len]; exact h), pin_at h, hp]
    simp
  · have h1 : (pin p d l).length ≤ i := by rw [pin_len]; omega
    rw [List.getElem?_eq_none h1, List.getElem?_eq_none (by omega)]
theorem pin_set {α : Type} {p : Int → Bool} {d : α} {l : List α} {i : Nat} {x : α} (hp : p (i : Int) = true) : pin p d (l.set i x) = (pin p d l).set i x := by
  apply List.ext_getElem
  · simp [pin_len]
  · intro j h1 h2
    rw [pin_at (by simpa [pin_len] using h1), List.getElem_set, List.getElem_set]
    by_cases hij : i = j
    · subst hij; simp [hp]
    · simp only [hij, if_false]
      rw [pin_at]
theorem pin_out {α : Type} {p : Int → Bool} {d : α} {l : List α} {i : Nat} {x : α} (hp : p (i : Int) = false) : pin p d (l.set i x) = pin p d l := by
  apply List.ext_getElem
  · simp [pin_len]
  · intro j h1 h2
    rw [pin_at (by simpa [pin_len] using h1), pin_at (by simpa [pin_len] using h2), List.getElem_set]
    by_cases hij : i = j
    · subst hij; simp [hp]
    · simp only [hij, if_false]
theorem pin_pin {α : Type} {p q : Int → Bool} {d : α} {l : List α} (h : ∀ x, q x = true → p x = true) : pin q d (pin p d l) = pin q d l := by
  apply List.ext_getElem
  · simp [pin_len]
  · intro j h1 h2
    have hj : j < l.length := by simpa [pin_len] using h2
    rw [pin_at (l := pin p d l) (by rw [pin_len]; exact hj), pin_at hj, pin_at hj]
    cases hq : q (j : Int) with
    | false => simp
    | true => simp [h _ hq]
/-- What of a state sessions of the labels p can notice. -/
def proj (p : Int → Bool) (m : St) : St := ⟨pin p [] m.L, pin p [] m.au, pin p 0 m.has, pin p [] m.dr, m.ses.filter (fun s => p s.level), (m.sn.filter (fun s => p s.level)).map fun s => ⟨s.level, s.n, s.snap, pin p [] s.l⟩⟩
theorem proj_proj {p q : Int → Bool} (h : ∀ x, q x = true → p x = true) (m : St) : proj q (proj p m) = proj q m := by
  unfold proj
  simp only [pin_pin h]
  congr 1
  · rw [List.filter_filter]
    congr 1
    funext s
    cases hq : q s.level with
    | false => simp
    | true => simp [h _ hq]
  · rw [List.filter_map, List.map_map, List.filter_filter]
    have e : (fun a : Snp => (((fun s : Snp => q s.level) ∘ fun s : Snp => (⟨s.level, s.n, s.snap, pin p [] s.l⟩ : Snp)) a && p a.level)) = fun s : Snp => q s.level := by
      funext s
      show (q s.level && p s.level) = q s.level
      cases hq : q s.level with
      | false => simp
      | true => simp [h _ hq]
    rw [e]
    apply List.map_congr_left
    intro s _
    show (⟨s.level, s.n, s.snap, pin q [] (pin p [] s.l)⟩ : Snp) = _
    rw [pin_pin h]
/-- The first that p takes is another one. -/
def upd {α : Type} (p : α → Bool) (f : α → α) : List α → List α
  | [] => []
  | x :: l => if p x then f x :: l else x :: upd p f l
theorem upd_cons {α : Type} (p : α → Bool) (f : α → α) (x : α) (l : List α) : upd p f (x :: l) = if p x then f x :: l else x :: upd p f l := rfl
theorem upd_eq {α : Type} (p : α → Bool) (f : α → α) : ∀ l : List α, (match l.findIdx? p with | some i => l.modify i f | none => l) = upd p f l
  | [] => rfl
  | x :: l => by
    have ih := upd_eq p f l
    rw [List.findIdx?_cons]
    unfold upd
    cases hp : p x with
    | true => simp
    | false =>
      simp only [Bool.false_eq_true, if_false]
      rw [← ih]
      cases l.findIdx? p with
      | none => rfl
      | some i => simp
theorem upd_filter {α : Type} {p q : α → Bool} {f : α → α} (h1 : ∀ x, p x = true → q x = true) (h2 : ∀ x, p x = true → q (f x) = true) : ∀ l : List α, (upd p f l).filter q = upd p f (l.filter q)
  | [] => rfl
  | x :: l => by
    have ih := upd_filter h1 h2 l
    rw [upd_cons]
    cases hp : p x with
    | true => rw [if_pos rfl, List.filter_cons, h2 x hp, if_pos rfl, List.filter_cons, h1 x hp, if_pos rfl, upd_cons, hp, if_pos rfl]
    | false =>
      rw [if_neg (by decide)]
      cases hq : q x with
      | true => rw [List.filter_cons, hq, if_pos rfl, List.filter_cons, hq, if_pos rfl, upd_cons, hp, if_neg (by decide), ih]
      | false => rw [List.filter_cons, hq, if_neg (by decide), List.filter_cons, hq, if_neg (by decide), ih]
theorem upd_other {α : Type} {p q : α → Bool} {f : α → α} (h1 : ∀ x, p x = true → q x = false) (h2 : ∀ x, p x = true → q (f x) = false) : ∀ l : List α, (upd p f l).filter q = l.filter q
  | [] => rfl
  | x :: l => by
    have ih := upd_other h1 h2 l
    unfold upd
    cases hp : p x with
    | true => simp [h1 x hp, h2 x hp]
    | false => cases hq : q x <;> simp [hq, ih]
/-- The first that p takes. -/
theorem first_eq {α β : Type} (p : α → Bool) (g : α → β) (d : β) : ∀ l : List α, (match l.findIdx? p with | some i => (match l[i]? with | some s => g s | none => d) | none => d) = (match l.find? p with | some s => g s | none => d)
  | [] => rfl
  | x :: l => by
    have ih := first_eq p g d l
    rw [List.findIdx?_cons, List.find?_cons]
    cases hp : p x with
    | true => simp
    | false =>
      simp only [Bool.false_eq_true, if_false]
      rw [← ih]
      cases l.findIdx? p with
      | none => rfl
      | some i => simp
theorem find_filter {α : Type} {p q : α → Bool} (h : ∀ x, p x = true → q x = true) (l : List α) : (l.filter q).find? p = l.find? p := by
  induction l with
  | nil => rfl
  | cons x l ih =>
    rw [List.find?_cons]
    cases hq : q x with
    | true => simp only [List.filter_cons, hq, if_true, List.find?_cons]; cases p x <;> simp [ih]
    | false =>
      have hp : p x = false := by
        cases hp : p x with
        | false => rfl
        | true => rw [h x hp] at hq; cases hq
      simp [hq, hp, ih]
theorem isS_level {level n : Int} {s : Ses} (h : isS level n s = true) : s.level = level := by
  unfold isS at h
  simp only [Bool.and_eq_true, beq_iff_eq] at h
  exact h.1.1
theorem isS_in {p : Int → Bool} {level n : Int} (hp : p level = true) : ∀ s : Ses, isS level n s = true → p s.level = true := fun s h => by rw [isS_level h]; exact hp
theorem isS_out {p : Int → Bool} {level n : Int} (hp : p level = false) : ∀ s : Ses, isS level n s = true → p s.level = false := fun s h => by rw [isS_level h]; exact hp
theorem sfind_neg (l : List Ses) (level n : Int) : sfind l level n < 0 ↔ l.find? (isS level n) = none := by
  unfold sfind
  cases hf : l.findIdx? (isS level n) with
  | none =>
    rw [List.findIdx?_eq_none_iff] at hf
    rw [List.find?_eq_none]
    exact ⟨fun _ x hx => by simp [hf x hx], fun _ => by simp⟩
  | some i =>
    obtain ⟨hi, h1, -⟩ := List.findIdx?_eq_some_iff_getElem.1 hf
    constructor
    · intro h; simp at h; omega
    · intro h
      rw [List.find?_eq_none] at h
      exact absurd h1 (h _ (List.getElem_mem hi))
theorem sfind_filter {p : Int → Bool} {level : Int} (n : Int) (hp : p level = true) (l : List Ses) : sfind (l.filter fun s => p s.level) level n < 0 ↔ sfind l level n < 0 := by
  rw [sfind_neg, sfind_neg, find_filter (isS_in hp)]
theorem snapsOf_eq (l : List Ses) (level n : Int) : snapsOf l level n = match l.find? (isS level n) with | some s => s.snaps | none => [] := by
  have h := first_eq (isS level n) (fun s => s.snaps) [] l
  unfold snapsOf
  cases h1 : l.findIdx? (isS level n) with
  | none =>
    rw [h1] at h
    cases h2 : l.find? (isS level n) with
    | none => rfl
    | some s => rw [h2] at h; exact h
  | some i =>
    rw [h1] at h
    simp only [] at h ⊢
    cases h3 : l[i]? with
    | none =>
      rw [h3] at h
      cases h2 : l.find? (isS level n) with
      | none => rfl
      | some s => rw [h2] at h; exact h
    | some t =>
      rw [h3] at h
      cases h2 : l.find? (isS level n) with
      | none => rw [h2] at h; exact h
      | some s => rw [h2] at h; exact h
theorem snapN_eq (l : List Ses) (level n : Int) : snapN l level n = match l.find? (isS level n) with | some s => s.last + 1 | none => 0 := by
  have h := first_eq (isS level n) (fun s => s.last + 1) 0 l
  unfold snapN
  cases h1 : l.findIdx? (isS level n) with
  | none =>
    rw [h1] at h
    cases h2 : l.find? (isS level n) with
    | none => rfl
    | some s => rw [h2] at h; exact h
  | some i =>
    rw [h1] at h
    simp only [] at h ⊢
    cases h3 : l[i]? with
    | none =>
      rw [h3] at h
      cases h2 : l.find? (isS level n) with
      | none => rfl
      | some s => rw [h2] at h; exact h
    | some t =>
      rw [h3] at h
      cases h2 : l.find? (isS level n) with
      | none => rw [h2] at h; exact h
      | some s => rw [h2] at h; exact h
theorem had_eq (l : List Ses) (level n snap : Int) : had l level n snap = match l.find? (isS level n) with | some s => (left snap s).length != s.snaps.length | none => false := by
  have h := first_eq (isS level n) (fun s => (left snap s).length != s.snaps.length) false l
  unfold had
  cases h1 : l.findIdx? (isS level n) with
  | none =>
    rw [h1] at h
    cases h2 : l.find? (isS level n) with
    | none => rfl
    | some s => rw [h2] at h; exact h
  | some i =>
    rw [h1] at h
    simp only [] at h ⊢
    cases h3 : l[i]? with
    | none =>
      rw [h3] at h
      cases h2 : l.find? (isS level n) with
      | none => rfl
      | some s => rw [h2] at h; exact h
    | some t =>
      rw [h3] at h
      cases h2 : l.find? (isS level n) with
      | none => rw [h2] at h; exact h
      | some s => rw [h2] at h; exact h
theorem snapS_eq (l : List Ses) (level n : Int) : snapS l level n = upd (isS level n) more l := upd_eq _ _ l
theorem unsnapS_eq (l : List Ses) (level n snap : Int) : unsnapS l level n snap = if had l level n snap then upd (isS level n) (less snap) l else l := by
  unfold unsnapS
  have h := upd_eq (isS level n) (less snap) l
  rw [← h]
  cases l.findIdx? (isS level n) <;> rfl
theorem close_eq (l : List Ses) (level n : Int) : close l level n = upd (isS level n) (fun _ => ⟨level, n, 0, true, []⟩) l := by
  rw [← upd_eq]
  unfold close
  cases hf : l.findIdx? (isS level n) with
  | none => rfl
  | some i =>
    simp only []
    apply List.ext_getElem
    · simp
    · intro j h1 h2
      rw [List.getElem_set, List.getElem_modify]
theorem openN_filter {p : Int → Bool} {level : Int} (hp : p level = true) (l : List Ses) : openN (l.filter fun s => p s.level) level = openN l level := by
  unfold openN
  rw [List.countP_filter]
  congr 2
  apply List.countP_congr
  intro s _
  simp only [Bool.and_eq_true, beq_iff_eq]
  exact ⟨fun h => h.1, fun h => ⟨h, by rw [h]; exact hp⟩⟩
theorem isP_level {o : Opr} {s : Snp} (h : isP o s = true) : s.level = o.level := by
  unfold isP at h
  simp only [Bool.and_eq_true, beq_iff_eq] at h
  exact h.1.1
/-- What a session of the labels p sees of one of them. -/
theorem sees_proj {p : Int → Bool} {o : Opr} {x : Nat} (m : St) (hl : p o.level = true) (hx : p (x : Int) = true) : sees (proj p m) o x = sees m o x := by
  have h0 : seesOwn (proj p m) o x = seesOwn m o x := by
    unfold seesOwn proj
    simp only [pin_getD hx]
  have h1 : (proj p m).sn.find? (isP o) = (m.sn.find? (isP o)).map fun s => (⟨s.level, s.n, s.snap, pin p [] s.l⟩ : Snp) := by
    unfold proj
    simp only []
    rw [List.find?_map]
    congr 1
    exact find_filter (p := isP o) (q := fun s : Snp => p s.level) (fun s h => by rw [isP_level h]; exact hl) m.sn
  unfold sees
  rw [h0, h1]
  cases m.sn.find? (isP o) with
  | none => rfl
  | some s =>
    simp only [Option.map_some]
    rw [pin_getD hx]
theorem has_proj {p : Int → Bool} {o : Opr} (m : St) (hl : p o.level = true) : has (proj p m) o = has m o := by
  unfold has
  rw [snapsOf_eq, snapsOf_eq]
  show (match (m.ses.filter fun s : Ses => p s.level).find? (isS o.level o.ses) with | some s => s.snaps | none => []).any _ = _
  rw [find_filter (isS_in hl)]
theorem rstep_proj {us : List Nat} {p : Int → Bool} {o : Opr} (m : St) (hl : p o.level = true) (hd : ∀ x : Nat, L.leq us (x : Int) o.level = true → p (x : Int) = true) : rstep us (proj p m) o = rstep us m o := by
  funext s x
  unfold rstep
  cases h : L.leq us (x : Int) o.level with
  | false => simp
  | true => simp only [if_true, sees_proj m hl (hd x h)]
/-- What a session of the labels p reads. -/
theorem read_proj {us : List Nat} {p : Int → Bool} {o : Opr} (m : St) (hl : p o.level = true) (hd : ∀ x : Nat, L.leq us (x : Int) o.level = true → p (x : Int) = true) : read us (proj p m) o = read us m o := by
  unfold read rfold
  rw [rstep_proj m hl hd, has_proj m hl]
theorem leq_nat {us : List Nat} {a b : Int} (h : L.leq us a b = true) : ∃ x : Nat, a = (x : Int) ∧ x < us.length := by
  cases hlab : L.lab us a with
  | false => rw [L.leq_of_not_left hlab] at h; cases h
  | true =>
    obtain ⟨-, h1, h2⟩ := L.lab_iff.1 hlab
    exact ⟨a.toNat, by omega, by omega⟩
/-- What a session of the labels p looks up. -/
theorem look_proj {us : List Nat} {p : Int → Bool} {o : Opr} (m : St) (hd : ∀ x : Nat, L.leq us (x : Int) o.level = true → p (x : Int) = true) : look us (proj p m) o = look us m o := by
  unfold look
  cases h : L.leq us o.label o.level with
  | false => simp
  | true =>
    obtain ⟨x, hx, -⟩ := leq_nat h
    rw [hx] at h ⊢
    have e : (proj p m).au.getD x [] = m.au.getD x [] := pin_getD (hd x h)
    simp only [Int.toNat_natCast, e]
/-- A write of a label in p: it is refused alike. -/
theorem wbad_proj {p : Int → Bool} {o : Opr} (m : St) {x : Nat} (hx : o.level = (x : Int)) (hl : p o.level = true) : wbad (proj p m) o = wbad m o := by
  have h1 : (proj p m).dr.getD o.level.toNat [] = m.dr.getD o.level.toNat [] := by rw [hx, Int.toNat_natCast]; exact pin_getD (by rw [← hx]; exact hl)
  have h2 : (proj p m).has.getD o.level.toNat 0 = m.has.getD o.level.toNat 0 := by rw [hx, Int.toNat_natCast]; exact pin_getD (by rw [← hx]; exact hl)
  unfold wbad
  rw [h1, h2]
theorem write_proj {p : Int → Bool} {o : Opr} (m : St) {x : Nat} (hx : o.level = (x : Int)) (hl : p o.level = true) : (write (proj p m) o).1 = (write m o).1 ∧ proj p (write (proj p m) o).2 = proj p (write m o).2 := by
  have hp : p (x : Int) = true := by rw [← hx]; exact hl
  have h1 : (proj p m).dr.getD o.level.toNat [] = m.dr.getD o.level.toNat [] := by rw [hx, Int.toNat_natCast]; exact pin_getD hp
  have hpp := proj_proj (p := p) (q := p) (fun _ h => h) m
  unfold write
  rw [wbad_proj m hx hl, h1]
  by_cases h : wbad m o = 0
  · rw [if_pos h, if_pos h]
    refine ⟨rfl, ?_⟩
    have e := congrArg St.dr hpp
    unfold proj at hpp ⊢
    simp only [St.mk.injEq] at hpp ⊢
    obtain ⟨a1, a2, a3, a4, a5, a6⟩ := hpp
    refine ⟨a1, a2, a3, ?_, a5, a6⟩
    rw [hx, Int.toNat_natCast, pin_set hp, pin_set hp, a4]
  · rw [if_neg h, if_neg h]
    exact ⟨rfl, hpp⟩
theorem write_other {p : Int → Bool} {o : Opr} (m : St) {x : Nat} (hx : o.level = (x : Int)) (hl : p o.level = false) : proj p (write m o).2 = proj p m := by
  unfold write
  split
  · unfold proj
    simp only [St.mk.injEq]
    refine ⟨trivial, trivial, trivial, ?_, trivial, trivial⟩
    rw [hx, Int.toNat_natCast]
    exact pin_out (by rw [← hx]; exact hl)
  · rfl
theorem had_filter {p : Int → Bool} {level : Int} (n snap : Int) (hp : p level = true) (l : List Ses) : had (l.filter fun s => p s.level) level n snap = had l level n snap := by
  rw [had_eq, had_eq, find_filter (isS_in hp)]
theorem snapN_filter {p : Int → Bool} {level : Int} (n : Int) (hp : p level = true) (l : List Ses) : snapN (l.filter fun s => p s.level) level n = snapN l level n := by
  rw [snapN_eq, snapN_eq, find_filter (isS_in hp)]
theorem unsnapS_filter {p : Int → Bool} {level : Int} (n snap : Int) (hp : p level = true) (l : List Ses) : (unsnapS l level n snap).filter (fun s => p s.level) = unsnapS (l.filter fun s => p s.level) level n snap := by
  rw [unsnapS_eq, unsnapS_eq, had_filter n snap hp]
  cases had l level n snap with
  | false => rfl
  | true =>
    rw [if_pos rfl, if_pos rfl]
    exact upd_filter (f := less snap) (isS_in hp) (fun s h => isS_in hp s h) l
theorem snapS_filter {p : Int → Bool} {level : Int} (n : Int) (hp : p level = true) (l : List Ses) : (snapS l level n).filter (fun s => p s.level) = snapS (l.filter fun s => p s.level) level n := by
  rw [snapS_eq, snapS_eq]
  exact upd_filter (f := more) (isS_in hp) (fun s h => isS_in hp s h) l
theorem unsnapS_other {p : Int → Bool} {level : Int} (n snap : Int) (hp : p level = false) (l : List Ses) : (unsnapS l level n snap).filter (fun s => p s.level) = l.filter fun s => p s.level := by
  rw [unsnapS_eq]
  cases had l level n snap with
  | false => rfl
  | true =>
    rw [if_pos rfl]
    exact upd_other (f := less snap) (isS_out hp) (fun s h => isS_out hp s h) l
theorem snapS_other {p : Int → Bool} {level : Int} (n : Int) (hp : p level = false) (l : List Ses) : (snapS l level n).filter (fun s => p s.level) = l.filter fun s => p s.level := by
  rw [snapS_eq]
  exact upd_other (f := more) (isS_out hp) (fun s h => isS_out hp s h) l
theorem close_filter {p : Int → Bool} {level : Int} (n : Int) (hp : p level = true) (l : List Ses) : (close l level n).filter (fun s => p s.level) = close (l.filter fun s => p s.level) level n := by
  rw [close_eq, close_eq]
  exact upd_filter (isS_in hp) (fun s _ => hp) l
theorem close_other {p : Int → Bool} {level : Int} (n : Int) (hp : p level = false) (l : List Ses) : (close l level n).filter (fun s => p s.level) = l.filter fun s => p s.level := by
  rw [close_eq]
  exact upd_other (isS_out hp) (fun s _ => hp) l
theorem openS_filter {p : Int → Bool} {level : Int} (hp : p level = true) (l : List Ses) : (openS l level).filter (fun s => p s.level) = openS (l.filter fun s => p s.level) level := by
  unfold openS
  rw [List.filter_append, openN_filter hp]
  simp [hp]
theorem openS_other {p : Int → Bool} {level : Int} (hp : p level = false) (l : List Ses) : (openS l level).filter (fun s => p s.level) = l.filter fun s => p s.level := by
  unfold openS
  rw [List.filter_append]
  simp [hp]
theorem snap_proj {p : Int → Bool} {o : Opr} (m : St) (hl : p o.level = true) : (snap (proj p m) o).1 = (snap m o).1 ∧ proj p (snap (proj p m) o).2 = proj p (snap m o).2 := by
  have hpp := proj_proj (p := p) (q := p) (fun _ h => h) m
  have hs : (proj p m).ses = m.ses.filter fun s => p s.level := rfl
  unfold snap
  by_cases h : o.kind = 12
  · rw [if_pos h, if_pos h]
    refine ⟨by rw [hs, had_filter _ _ hl], ?_⟩
    unfold proj at hpp ⊢
    simp only [St.mk.injEq] at hpp ⊢
    obtain ⟨a1, a2, a3, a4, a5, a6⟩ := hpp
    refine ⟨a1, a2, a3, a4, ?_, a6⟩
    rw [unsnapS_filter _ _ hl, unsnapS_filter _ _ hl, a5]
  · rw [if_neg h, if_neg h]
    have hn : snapN (proj p m).ses o.level o.ses = snapN m.ses o.level o.ses := by rw [hs, snapN_filter _ hl]
    rw [hn]
    refine ⟨rfl, ?_⟩
    unfold proj at hpp ⊢
    simp only [St.mk.injEq] at hpp ⊢
    obtain ⟨a1, a2, a3, a4, a5, a6⟩ := hpp
    refine ⟨a1, a2, a3, a4, ?_, ?_⟩
    · rw [snapS_filter _ hl, snapS_filter _ hl, a5]
    · rw [List.filter_append, List.map_append, List.filter_append, List.map_append, a6]
      congr 1
      simp [hl, pin_pin (fun x (h : p x = true) => h)]
theorem snap_other {p : Int → Bool} {o : Opr} (m : St) (hl : p o.level = false) : proj p (snap m o).2 = proj p m := by
  unfold snap
  split
  · unfold proj
    simp only [St.mk.injEq]
    exact ⟨trivial, trivial, trivial, trivial, unsnapS_other _ _ hl _, trivial⟩
  · unfold proj
    simp only [St.mk.injEq]
    refine ⟨trivial, trivial, trivial, trivial, snapS_other _ hl _, ?_⟩
    rw [List.filter_append]
    simp [hl]
theorem txn_proj {p : Int → Bool} {o : Opr} (m : St) {x : Nat} (hx : o.level = (x : Int)) (hl : p o.level = true) : (txn (proj p m) o).1 = (txn m o).1 ∧ proj p (txn (proj p m) o).2 = proj p (txn m o).2 := by
  have hp : p (x : Int) = true := by rw [← hx]; exact hl
  have hpp := proj_proj (p := p) (q := p) (fun _ h => h) m
  have h1 : (proj p m).has.getD x 0 = m.has.getD x 0 := pin_getD hp
  have h2 : (proj p m).dr.getD x [] = m.dr.getD x [] := pin_getD hp
  have h3 : (proj p m).L.getD x [] = m.L.getD x [] := pin_getD hp
  unfold txn
  simp only [hx, Int.toNat_natCast, h1, h2, h3]
  by_cases k2 : o.kind = 2
  · rw [if_pos k2, if_pos k2]
    by_cases k0 : 0 < m.has.getD x 0
    · rw [if_pos k0, if_pos k0]
      exact ⟨rfl, hpp⟩
    · rw [if_neg k0, if_neg k0]
      refine ⟨rfl, ?_⟩
      unfold proj at hpp ⊢
      simp only [St.mk.injEq] at hpp ⊢
      obtain ⟨a1, a2, a3, a4, a5, a6⟩ := hpp
      refine ⟨a1, a2, ?_, ?_, a5, a6⟩
      · rw [pin_set hp, pin_set hp, a3]
      · rw [pin_set hp, pin_set hp, a4]
  · rw [if_neg k2, if_neg k2]
    split
    · exact ⟨rfl, hpp⟩
    · refine ⟨rfl, ?_⟩
      unfold proj at hpp ⊢
      simp only [St.mk.injEq] at hpp ⊢
      obtain ⟨a1, a2, a3, a4, a5, a6⟩ := hpp
      refine ⟨?_, a2, ?_, a4, ?_, a6⟩
      · split
        · rw [pin_set hp, pin_set hp, a1]
        · exact a1
      · split
        · rw [pin_set hp, pin_set hp, a3]
        · exact a3
      · split
        · rw [close_filter _ hp, close_filter _ hp, a5]
        · exact a5
theorem txn_other {p : Int → Bool} {o : Opr} (m : St) {x : Nat} (hx : o.level = (x : Int)) (hl : p o.level = false) : proj p (txn m o).2 = proj p m := by
  have hp : p (x : Int) = false := by rw [← hx]; exact hl
  unfold txn
  simp only [hx, Int.toNat_natCast]
  split
  · split
    · rfl
    · unfold proj
      simp only [St.mk.injEq]
      exact ⟨trivial, trivial, pin_out hp, pin_out hp, trivial, trivial⟩
  · split
    · rfl
    · unfold proj
      simp only [St.mk.injEq]
      refine ⟨?_, trivial, ?_, trivial, ?_, trivial⟩
      · split
        · exact pin_out hp
        · rfl
      · split
        · exact pin_out hp
        · rfl
      · split
        · exact close_other _ hp _
        · rfl
/-- A declassifying of a level in p: all that it asks is in p. -/
theorem dbad_proj {us : List Nat} {gs : List Gr} {p : Int → Bool} {o : Opr} (m : St) (hd : ∀ x : Nat, L.leq us (x : Int) o.level = true → p (x : Int) = true) : dbad us gs (proj p m) o = dbad us gs m o := by
  unfold dbad
  cases h1 : L.leq us o.label o.level with
  | false => simp
  | true =>
    cases h2 : L.leq us o.to o.level with
    | false => simp
    | true =>
      obtain ⟨x, hx, -⟩ := leq_nat h1
      obtain ⟨y, hy, -⟩ := leq_nat h2
      rw [hx] at h1 ⊢
      rw [hy] at h2 ⊢
      have e1 : (proj p m).has.getD y 0 = m.has.getD y 0 := pin_getD (hd y h2)
      have e2 : (proj p m).L.getD x [] = m.L.getD x [] := pin_getD (hd x h1)
      have e3 : (proj p m).L.getD y [] = m.L.getD y [] := pin_getD (hd y h2)
      simp only [Int.toNat_natCast, e1, e2, e3]
theorem crash_proj {p : Int → Bool} {o o' : Opr} (m : St) (h : (p o.level = true ∧ o'.level = o.level ∧ o'.ses = o.ses) ∨ (p o.level = false ∧ o'.ses = 0)) : (crash (proj p m) o').1 = (crash m o).1 ∧ proj p (crash (proj p m) o').2 = proj p (crash m o).2 := by
  have hpp := proj_proj (p := p) (q := p) (fun _ h => h) m
  have hlen : (proj p m).L.length = m.L.length := pin_len _ _ _
  unfold crash
  rw [hlen]
  refine ⟨rfl, ?_⟩
  unfold proj at hpp ⊢
  simp only [St.mk.injEq] at hpp ⊢
  obtain ⟨a1, a2, a3, a4, a5, a6⟩ := hpp
  refine ⟨?_, a2, trivial, a4, trivial, trivial⟩
  rcases h with ⟨hl, e1, e2⟩ | ⟨hl, e2⟩
  · rw [e1, e2]
    by_cases h0 : 0 ≤ o.level
    · obtain ⟨x, hx⟩ : ∃ x : Nat, o.level = (x : Int) := ⟨o.level.toNat, by omega⟩
      have hp : p (x : Int) = true := by rw [← hx]; exact hl
      rw [hx, Int.toNat_natCast, pin_getD hp, pin_getD hp]
      split
      · rw [pin_set hp, pin_set hp, a1]
      · exact a1
    · have d : decide (0 ≤ o.level) = false := by simpa using h0
      simp only [d, Bool.false_and, Bool.and_false, Bool.false_eq_true, if_false]
      exact a1
  · rw [e2]
    simp only [show decide ((0 : Int) < 0) = false by decide, Bool.false_and, Bool.false_eq_true, if_false]
    split
    · rename_i hc
      simp only [Bool.and_eq_true, decide_eq_true_eq] at hc
      obtain ⟨x, hx⟩ : ∃ x : Nat, o.level = (x : Int) := ⟨o.level.toNat, by omega⟩
      rw [hx, Int.toNat_natCast, pin_out (by rw [← hx]; exact hl)]
      exact a1
    · exact a1
theorem dbad_leq {us : List Nat} {gs : List Gr} {m : St} {o : Opr} (h : dbad us gs m o = 0) : L.leq us o.label o.level = true ∧ L.leq us o.to o.level = true ∧ gs.contains (o.level, o.label, o.to) = true := by
  unfold dbad at h
  cases h1 : L.leq us o.label o.level with
  | false => simp [h1] at h
  | true =>
    cases h2 : L.leq us o.to o.level with
    | false => simp [h1, h2] at h
    | true =>
      cases h3 : gs.contains (o.level, o.label, o.to) with
      | false =>
        rw [h1, h2, h3] at h
        rw [if_pos (by decide)] at h
        cases h
      | true => exact ⟨rfl, rfl, rfl⟩
theorem declassify_other {us : List Nat} {gs : List Gr} {p : Int → Bool} {o : Opr} (m : St) (h : dbad us gs m o = 0 → p o.to = false) : proj p (declassify us gs m o).2 = proj p m := by
  unfold declassify
  split
  · rename_i h0
    obtain ⟨-, h2, -⟩ := dbad_leq h0
    obtain ⟨y, hy, -⟩ := leq_nat h2
    have hp : p (y : Int) = false := by rw [← hy]; exact h h0
    unfold proj
    simp only [St.mk.injEq]
    rw [hy, Int.toNat_natCast]
    exact ⟨pin_out hp, pin_out hp, trivial, trivial, trivial, trivial⟩
  · rfl
end M
end Go.Proofs.YtmapmeacjpoaoaaDoor
namespace Go.Proofs.YtmapmeacjpoaoaaDoor
namespace M

theorem declassify_proj {us : List Nat} {gs : List Gr} {p : Int → Bool} {o : Opr} (m : St) (hd : ∀ x : Nat, L.leq us (x : Int) o.level = true → p (x : Int) = true) : (declassify us gs (proj p m) o).1 = (declassify us gs m o).1 ∧ proj p (declassify us gs (proj p m) o).2 = proj p (declassify us gs m o).2 := by
  have hpp := proj_proj (p := p) (q := p) (fun _ h => h) m
  unfold declassify
  rw [dbad_proj m hd]
  by_cases h : dbad us gs m o = 0
  · rw [if_pos h, if_pos h]
    obtain ⟨h1, h2, -⟩ := dbad_leq h
    obtain ⟨x, hx, -⟩ := leq_nat h1
    obtain ⟨y, hy, -⟩ := leq_nat h2
    have px := hd x (by rw [← hx]; exact h1)
    have py := hd y (by rw [← hy]; exact h2)
    have e1 : (proj p m).L.getD o.label.toNat [] = m.L.getD o.label.toNat [] := by rw [hx, Int.toNat_natCast]; exact pin_getD px
    have e2 : (proj p m).L.getD o.to.toNat [] = m.L.getD o.to.toNat [] := by rw [hy, Int.toNat_natCast]; exact pin_getD py
    have e3 : (proj p m).au.getD o.to.toNat [] = m.au.getD o.to.toNat [] := by rw [hy, Int.toNat_natCast]; exact pin_getD py
    have e4 : dval (proj p m) o = dval m o := by unfold dval; rw [e1]
    have e5 : drec (proj p m) o = drec m o := by unfold drec; rw [e4]
    rw [e2, e3, e4, e5]
    refine ⟨rfl, ?_⟩
    unfold proj at hpp ⊢
    simp only [St.mk.injEq] at hpp ⊢
    obtain ⟨a1, a2, a3, a4, a5, a6⟩ := hpp
    refine ⟨?_, ?_, a3, a4, a5, a6⟩
    · rw [hy, Int.toNat_natCast, pin_set py, pin_set py, a1]
    · rw [hy, Int.toNat_natCast, pin_set py, pin_set py, a2]
  · rw [if_neg h, if_neg h]
    exact ⟨rfl, hpp⟩
/-- An operation of a level in p tells the same at what p notices of a state, and leaves the same. -/
theorem do_proj {us : List Nat} {gs : List Gr} {p : Int → Bool} {o : Opr} (m : St) (hc : check us.length o = true) (h16 : o.kind ≠ 16) (hl : p o.level = true) (hd : ∀ x : Nat, L.leq us (x : Int) o.level = true → p (x : Int) = true) :
    (do_ us gs (proj p m) o).1 = (do_ us gs m o).1 ∧ proj p (do_ us gs (proj p m) o).2 = proj p (do_ us gs m o).2 := by
  have hpp := proj_proj (p := p) (q := p) (fun _ h => h) m
  obtain ⟨hv0, hv1⟩ := check_lv hc h16
  obtain ⟨x, hx⟩ : ∃ x : Nat, o.level = (x : Int) := ⟨o.level.toNat, by omega⟩
  by_cases h0 : o.kind = 0
  · rw [do_open hc h0, do_open hc h0]
    have e1 : openN (proj p m).ses o.level = openN m.ses o.level := openN_filter hl m.ses
    rw [e1]
    refine ⟨rfl, ?_⟩
    unfold proj at hpp ⊢
    simp only [St.mk.injEq] at hpp ⊢
    obtain ⟨a1, a2, a3, a4, a5, a6⟩ := hpp
    refine ⟨a1, a2, a3, a4, ?_, a6⟩
    rw [openS_filter hl, openS_filter hl, a5]
  · have hs : sfind (proj p m).ses o.level o.ses < 0 ↔ sfind m.ses o.level o.ses < 0 := sfind_filter o.ses hl m.ses
    by_cases hf : sfind m.ses o.level o.ses < 0
    · rw [do_none hc h0 h16 hf, do_none hc h0 h16 (hs.2 hf)]
      exact ⟨rfl, hpp⟩
    · rw [do_rest hc h0 h16 hf, do_rest hc h0 h16 (fun h => hf (hs.1 h))]
      unfold rest
      by_cases h1 : o.kind = 9 ∨ o.kind = 10
      · rw [if_pos h1, if_pos h1]
        exact ⟨read_proj m hl hd, hpp⟩
      rw [if_neg h1, if_neg h1]
      by_cases h2 : o.kind = 11 ∨ o.kind = 12
      · rw [if_pos h2, if_pos h2]
        exact snap_proj m hl
      rw [if_neg h2, if_neg h2]
      by_cases h3 : o.kind = 13 ∨ o.kind = 14
      · rw [if_pos h3, if_pos h3]
        exact ⟨look_proj m hd, hpp⟩
      rw [if_neg h3, if_neg h3]
      by_cases h4 : o.kind = 15
      · rw [if_pos h4, if_pos h4]
        exact declassify_proj m hd
      rw [if_neg h4, if_neg h4]
      by_cases h5 : o.kind = 5 ∨ o.kind = 6 ∨ o.kind = 7 ∨ o.kind = 8
      · rw [if_pos h5, if_pos h5]
        exact write_proj m hx hl
      rw [if_neg h5, if_neg h5]
      exact txn_proj m hx hl
/-- An operation of a level that is not in p leaves what p notices, unless it declassifies to a label in p. -/
theorem do_other {us : List Nat} {gs : List Gr} {p : Int → Bool} {o : Opr} (m : St) (hc : check us.length o = true) (h16 : o.kind ≠ 16) (hl : p o.level = false) (hdec : o.kind = 15 → dbad us gs m o = 0 → p o.to = false) : proj p (do_ us gs m o).2 = proj p m := by
  obtain ⟨hv0, hv1⟩ := check_lv hc h16
  obtain ⟨x, hx⟩ : ∃ x : Nat, o.level = (x : Int) := ⟨o.level.toNat, by omega⟩
  by_cases h0 : o.kind = 0
  · rw [do_open hc h0]
    unfold proj
    simp only [St.mk.injEq]
    exact ⟨trivial, trivial, trivial, trivial, openS_other hl m.ses, trivial⟩
  · by_cases hf : sfind m.ses o.level o.ses < 0
    · rw [do_none hc h0 h16 hf]
    · rw [do_rest hc h0 h16 hf]
      unfold rest
      by_cases h1 : o.kind = 9 ∨ o.kind = 10
      · rw [if_pos h1]
      rw [if_neg h1]
      by_cases h2 : o.kind = 11 ∨ o.kind = 12
      · rw [if_pos h2]
        exact snap_other m hl
      rw [if_neg h2]
      by_cases h3 : o.kind = 13 ∨ o.kind = 14
      · rw [if_pos h3]
      rw [if_neg h3]
      by_cases h4 : o.kind = 15
      · rw [if_pos h4]
        exact declassify_other m (hdec h4)
      rw [if_neg h4]
      by_cases h5 : o.kind = 5 ∨ o.kind = 6 ∨ o.kind = 7 ∨ o.kind = 8
      · rw [if_pos h5]
        exact write_other m hx hl
      rw [if_neg h5]
      exact txn_other m hx hl

theorem inn_or (s t : Nat) (a : Int) : L.inn (s ||| t) a = (L.inn s a || L.inn t a) := by
  unfold L.inn
  rw [Nat.testBit_or]
  cases decide (0 ≤ a) <;> cases decide (a < 64) <;> simp
theorem leq_lab {us : List Nat} {a b : Int} (h : L.leq us a b = true) : ∃ x : Nat, b = (x : Int) ∧ x < us.length := by
  cases hlab : L.lab us b with
  | false => rw [L.leq_of_not_right hlab] at h; cases h
  | true =>
    obtain ⟨-, h1, h2⟩ := L.lab_iff.1 hlab
    exact ⟨b.toNat, by omega, by omega⟩
theorem leq_trans {us : List Nat} (hl : L.Lat us) {a b c : Int} (h : L.leq us a b = true) (k : L.leq us b c = true) : L.leq us a c = true := by
  obtain ⟨y, rfl, hy⟩ := leq_nat k
  obtain ⟨z, rfl, hz⟩ := leq_lab k
  rw [← L.inn_down] at h ⊢
  exact L.Sub.inn (L.down_sub hl hy hz k) h
theorem cur_closed {us : List Nat} {gs : List Gr} (hl : L.Lat us) (x : Int) : ∀ (l : List Opr) (a b : Int), L.inn (L.cur us gs (L.down us x) l) b = true → L.leq us a b = true → L.inn (L.cur us gs (L.down us x) l) a = true
  | [], a, b, h, k => by
    have e : L.cur us gs (L.down us x) [] = L.down us x := rfl
    rw [e, L.inn_down] at h ⊢
    exact leq_trans hl k h
  | o :: l, a, b, h, k => by
    have e : L.cur us gs (L.down us x) (o :: l) = L.step us gs o (L.cur us gs (L.down us x) l) := rfl
    rw [e] at h ⊢
    unfold L.step at h ⊢
    split at h
    · rename_i hf
      rw [if_pos hf]
      rw [inn_or, Bool.or_eq_true] at h ⊢
      rcases h with h | h
      · exact .inl (cur_closed hl x l a b h k)
      · rw [L.inn_down] at h ⊢
        exact .inr (leq_trans hl k h)
    · rename_i hf
      rw [if_neg hf]
      exact cur_closed hl x l a b h k
theorem check_trim {n : Nat} {p : Int → Bool} {o : Opr} (h : check n o = true) : check n (L.trim p o) = true := by
  by_cases hk : o.kind = 16
  · have h2 : (L.trim p o).kind = 16 := by rw [L.trim_kind, hk]
    unfold check
    simp [h2]
  · rw [L.trim_kept hk]
    exact h
theorem seen_trim (q p : Int → Bool) (o : Opr) : L.seen q (L.trim p o) = L.seen q o := by
  by_cases hk : o.kind = 16
  · have h2 : (L.trim p o).kind = 16 := by rw [L.trim_kind, hk]
    unfold L.seen
    simp [h2, hk]
  · rw [L.trim_kept hk]
/-- What sessions of the levels below x are told. -/
noncomputable def told (us : List Nat) (gs : List Gr) (x : Int) : List Opr → St → List Res
  | [], _ => []
  | o :: l, m => (if L.seen (fun a => L.leq us a x) o then [(do_ us gs m o).1] else []) ++ told us gs x l (do_ us gs m o).2
theorem told_cons (us : List Nat) (gs : List Gr) (x : Int) (o : Opr) (l : List Opr) (m : St) : told us gs x (o :: l) m = (if L.seen (fun a => L.leq us a x) o then [(do_ us gs m o).1] else []) ++ told us gs x l (do_ us gs m o).2 := rfl
theorem crash_two {p : Int → Bool} {o : Opr} (ma mb : St) (h16 : o.kind = 16) (h : proj p ma = proj p mb) : (crash mb (L.trim p o)).1 = (crash ma o).1 ∧ proj p (crash mb (L.trim p o)).2 = proj p (crash ma o).2 := by
  refine ⟨rfl, ?_⟩
  have h1 : (p o.level = true ∧ (L.trim p o).level = o.level ∧ (L.trim p o).ses = o.ses) ∨ (p o.level = false ∧ (L.trim p o).ses = 0) := by
    unfold L.trim
    rw [if_pos h16]
    cases hp : p o.level with
    | true => exact .inl ⟨rfl, rfl, rfl⟩
    | false => exact .inr ⟨rfl, rfl⟩
  have h2 : (p (L.trim p o).level = true ∧ (L.trim p o).level = (L.trim p o).level ∧ (L.trim p o).ses = (L.trim p o).ses) ∨ (p (L.trim p o).level = false ∧ (L.trim p o).ses = 0) := by
    cases hp : p (L.trim p o).level with
    | true => exact .inl ⟨rfl, rfl, rfl⟩
    | false =>
      rcases h1 with ⟨a, b, -⟩ | ⟨-, b⟩
      · rw [b, a] at hp; cases hp
      · exact .inr ⟨rfl, b⟩
  have e1 := (crash_proj ma h1).2
  have e2 := (crash_proj mb h2).2
  rw [← e2, ← h, e1]
theorem told_purges {us : List Nat} {gs : List Gr} (hl : L.Lat us) (hg : L.gcheck us gs = true) (x : Int) : ∀ (l : List Opr), (∀ o ∈ l, check us.length o = true) → ∀ ma mb : St, proj (L.inn (L.cur us gs (L.down us x) l)) ma = proj (L.inn (L.cur us gs (L.down us x) l)) mb →
    told us gs x (L.purges us gs (L.down us x) l) mb = told us gs x l ma
  | [], _, _, _, _ => rfl
  | o :: l, hc, ma, mb, h => by
    have hco := hc o List.mem_cons_self
    have hcl : ∀ o ∈ l, check us.length o = true := fun q hq => hc q (List.mem_cons_of_mem _ hq)
    have hsub : ∀ y, L.inn (L.cur us gs (L.down us x) l) y = true → L.inn (L.cur us gs (L.down us x) (o :: l)) y = true := fun y hy => L.Sub.inn (L.step_grows us gs o _) hy
    rw [L.purges_cons]
    cases hs : L.seen (L.inn (L.cur us gs (L.down us x) (o :: l))) o with
    | true =>
      have ep : L.pick (L.inn (L.cur us gs (L.down us x) (o :: l))) o = [L.trim (L.inn (L.cur us gs (L.down us x) (o :: l))) o] := by unfold L.pick; rw [if_pos hs]
      rw [ep, List.singleton_append, told_cons, told_cons, seen_trim]
      have key : (do_ us gs mb (L.trim (L.inn (L.cur us gs (L.down us x) (o :: l))) o)).1 = (do_ us gs ma o).1 ∧ proj (L.inn (L.cur us gs (L.down us x) (o :: l))) (do_ us gs mb (L.trim (L.inn (L.cur us gs (L.down us x) (o :: l))) o)).2 = proj (L.inn (L.cur us gs (L.down us x) (o :: l))) (do_ us gs ma o).2 := by
        by_cases hk : o.kind = 16
        · rw [do_crash hco hk, do_crash (check_trim hco) (by rw [L.trim_kind, hk])]
          exact crash_two ma mb hk h
        · rw [L.trim_kept hk]
          have hlv : L.inn (L.cur us gs (L.down us x) (o :: l)) o.level = true := by
            unfold L.seen at hs
            simpa [hk] using hs
          have hd : ∀ y : Nat, L.leq us (y : Int) o.level = true → L.inn (L.cur us gs (L.down us x) (o :: l)) (y : Int) = true := fun y hy => cur_closed hl x (o :: l) y o.level hlv hy
          obtain ⟨a1, a2⟩ := do_proj (gs := gs) ma hco hk hlv hd
          obtain ⟨b1, b2⟩ := do_proj (gs := gs) mb hco hk hlv hd
          rw [← a1, ← b1, ← a2, ← b2, h]
          exact ⟨rfl, rfl⟩
      obtain ⟨k1, k2⟩ := key
      rw [k1, told_purges hl hg x l hcl (do_ us gs ma o).2 _ ?_]
      rw [← proj_proj hsub, ← k2, proj_proj hsub]
    | false =>
      have ep : L.pick (L.inn (L.cur us gs (L.down us x) (o :: l))) o = [] := by unfold L.pick; rw [if_neg (by rw [hs]; decide)]
      rw [ep, List.nil_append, told_cons]
      unfold L.seen at hs
      rw [Bool.or_eq_false_iff, decide_eq_false_iff_not] at hs
      obtain ⟨hk, hlv⟩ := hs
      have hx : L.leq us o.level x = false := by
        rw [Bool.eq_false_iff]
        intro hx
        rw [← L.inn_down] at hx
        rw [L.Sub.inn (L.cur_has us gs (L.down us x) (o :: l)) hx] at hlv
        cases hlv
      have hsx : L.seen (fun a => L.leq us a x) o = false := by
        unfold L.seen
        simp [hk, hx]
      rw [hsx]
      have hlv2 : L.inn (L.cur us gs (L.down us x) l) o.level = false := by
        rw [Bool.eq_false_iff]
        intro h2
        rw [hsub _ h2] at hlv
        cases hlv
      have hoth := do_other (us := us) (gs := gs) (p := L.inn (L.cur us gs (L.down us x) l)) ma hco hk hlv2 (fun h15 hb => by
        obtain ⟨-, -, h3⟩ := dbad_leq hb
        rw [Bool.eq_false_iff]
        intro hto
        have hf : L.flows gs o (L.cur us gs (L.down us x) l) = true := by
          unfold L.flows
          rw [hto, h3]
          simp [h15]
        have h4 : L.inn (L.cur us gs (L.down us x) (o :: l)) o.level = true := by
          refine L.Sub.inn ?_ (L.flows_has hl hg hf)
          show L.Sub _ (L.step us gs o (L.cur us gs (L.down us x) l))
          unfold L.step
          rw [if_pos hf]
          exact L.Sub.right _ _
        rw [h4] at hlv
        cases hlv)
      simp only [Bool.false_eq_true, if_false, List.nil_append]
      refine told_purges hl hg x l hcl _ mb ?_
      rw [hoth, ← proj_proj hsub, h, proj_proj hsub]
end M
end Go.Proofs.YtmapmeacjpoaoaaDoor
namespace Go.Proofs.YtmapmeacjpoaoaaDoor
namespace M

theorem wfold_mem (e : En) : ∀ (l : List En) (s : List En × Bool) (y : En), y ∈ (l.foldl (wstep e) s).1 → y ∈ s.1 ∨ y = e ∨ y ∈ l
  | [], s, y, h => .inl h
  | x :: l, s, y, h => by
    rw [List.foldl_cons] at h
    rcases wfold_mem e l (wstep e s x) y h with h | h | h
    · unfold wstep at h
      simp only [List.mem_append] at h
      rcases h with (h | h) | h
      · exact .inl h
      · split at h
        · exact .inr (.inl (by simpa using h))
        · cases h
      · split at h
        · exact .inr (.inr (by rw [show y = x by simpa using h]; exact List.mem_cons_self))
        · cases h
    · exact .inr (.inl h)
    · exact .inr (.inr (List.mem_cons_of_mem _ h))
theorem with_mem {l : List En} {e y : En} (h : y ∈ with_ l e) : y = e ∨ y ∈ l := by
  unfold with_ wfold at h
  rw [List.mem_append] at h
  rcases h with h | h
  · rcases wfold_mem e l _ y h with h | h | h
    · cases h
    · exact .inl h
    · exact .inr h
  · split at h
    · cases h
    · exact .inl (by simpa using h)
/-- A list of entries that is not too long, nor are its values. -/
def Short (k : Nat) (l : List En) : Prop := l.length ≤ k ∧ ∀ e ∈ l, e.2.2.length ≤ 400
theorem Short.nil (k : Nat) : Short k [] := ⟨Nat.zero_le _, fun e he => by cases he⟩
theorem Short.mono {k j : Nat} {l : List En} (h : Short k l) (hk : k ≤ j) : Short j l := ⟨Nat.le_trans h.1 hk, h.2⟩
theorem Short.with {k : Nat} {l : List En} {e : En} (h : Short k l) (he : e.2.2.length ≤ 400) : Short (k + 1) (with_ l e) :=
  ⟨Nat.le_trans (with_len l e) (by have := h.1; omega), fun y hy => by
    rcases with_mem hy with rfl | hy
    · exact he
    · exact h.2 y hy⟩
theorem Short.without {k : Nat} {l : List En} (b c : List UInt8) (h : Short k l) : Short (k + 1) (without l b c) :=
  ⟨Nat.le_trans (List.length_filter_le _ _) (by have := h.1; omega), fun y hy => h.2 y (List.mem_filter.1 hy).1⟩
theorem set_all {α : Type} {P : α → Prop} {l : List α} {i : Nat} {v : α} (h : ∀ x ∈ l, P x) (hv : P v) : ∀ x ∈ l.set i v, P x := fun x hx => by
  rcases List.mem_or_eq_of_mem_set hx with hx | rfl
  · exact h x hx
  · exact hv
theorem Few.mono {n k j : Nat} {m : St} (h : Few n k m) (hk : k ≤ j) : Few n j m :=
  ⟨h.nL, h.nau, h.nhas, h.ndr, fun l hl => ⟨Nat.le_trans (h.kL l hl).1 hk, (h.kL l hl).2⟩, fun l hl => ⟨Nat.le_trans (h.kdr l hl).1 hk, (h.kdr l hl).2⟩, fun l hl => Nat.le_trans (h.kau l hl) hk, Nat.le_trans h.kses hk, Nat.le_trans h.ksn hk,
   fun s hs => ⟨Nat.le_trans (h.one s hs).1 hk, (h.one s hs).2.1, by have := (h.one s hs).2.2; omega⟩, fun p hp => ⟨(h.psn p hp).1, fun l hl => ⟨Nat.le_trans ((h.psn p hp).2 l hl).1 hk, ((h.psn p hp).2 l hl).2⟩⟩⟩
theorem Few.getL' {n k : Nat} {m : St} (h : Few n k m) (i : Nat) : Short k (m.L.getD i []) := h.getL i
theorem Few.getD' {n k : Nat} {m : St} (h : Few n k m) (i : Nat) : Short k (m.dr.getD i []) := getD_all (P := Short k) h.kdr (Short.nil k) i
theorem Few.new (n : Nat) : Few n 0 (M.new n) := by
  unfold M.new
  refine ⟨by simp, by simp, by simp, by simp, fun l hl => ?_, fun l hl => ?_, fun l hl => ?_, by simp, by simp, fun s hs => by simp at hs, fun p hp => by simp at hp⟩
  · rw [List.eq_of_mem_replicate hl]; exact Short.nil 0
  · rw [List.eq_of_mem_replicate hl]; exact Short.nil 0
  · rw [List.eq_of_mem_replicate hl]; exact Nat.le_refl _
theorem upd_mem {α : Type} {p : α → Bool} {f : α → α} : ∀ {l : List α} {y : α}, y ∈ upd p f l → y ∈ l ∨ ∃ x ∈ l, y = f x
  | [], y, h => by cases h
  | x :: l, y, h => by
    rw [upd_cons] at h
    split at h
    · rcases List.mem_cons.1 h with rfl | h
      · exact .inr ⟨x, List.mem_cons_self, rfl⟩
      · exact .inl (List.mem_cons_of_mem _ h)
    · rcases List.mem_cons.1 h with rfl | h
      · exact .inl List.mem_cons_self
      · rcases upd_mem h with h | ⟨z, hz, e⟩
        · exact .inl (List.mem_cons_of_mem _ h)
        · exact .inr ⟨z, List.mem_cons_of_mem _ hz, e⟩
theorem upd_len {α : Type} {p : α → Bool} {f : α → α} : ∀ l : List α, (upd p f l).length = l.length
  | [] => rfl
  | x :: l => by
    rw [upd_cons]
    split
    · rfl
    · rw [List.length_cons, upd_len l, List.length_cons]
/-- What is asked of one session. -/
def One (k : Nat) (s : Ses) : Prop := s.snaps.length ≤ k ∧ 0 ≤ s.last ∧ s.last ≤ k
theorem one_upd {k : Nat} {p : Ses → Bool} {f : Ses → Ses} {l : List Ses} (h : ∀ s ∈ l, One k s) (hf : ∀ s, One k s → One (k + 1) (f s)) : ∀ s ∈ upd p f l, One (k + 1) s := fun s hs => by
  rcases upd_mem hs with hs | ⟨x, hx, rfl⟩
  · obtain ⟨a, b, c⟩ := h s hs
    exact ⟨by omega, b, by omega⟩
  · exact hf x (h x hx)
theorem Few.ses {n k : Nat} {m : St} (h : Few n (k + 1) m) (l : List Ses) (hl : l.length ≤ k + 1) (ho : ∀ s ∈ l, One (k + 1) s) : Few n (k + 1) { m with ses := l } :=
  ⟨h.nL, h.nau, h.nhas, h.ndr, h.kL, h.kdr, h.kau, hl, h.ksn, ho, h.psn⟩
theorem Few.setL {n k : Nat} {m : St} (h : Few n k m) (i : Nat) {l : List En} (hl : Short k l) : Few n k { m with L := m.L.set i l } :=
  ⟨by simpa using h.nL, h.nau, h.nhas, h.ndr, set_all (P := Short k) h.kL hl, h.kdr, h.kau, h.kses, h.ksn, h.one, h.psn⟩
theorem Few.setdr {n k : Nat} {m : St} (h : Few n k m) (i : Nat) {l : List En} (hl : Short k l) : Few n k { m with dr := m.dr.set i l } :=
  ⟨h.nL, h.nau, h.nhas, by simpa using h.ndr, h.kL, set_all (P := Short k) h.kdr hl, h.kau, h.kses, h.ksn, h.one, h.psn⟩
theorem Few.setau {n k : Nat} {m : St} (h : Few n k m) (i : Nat) {l : List Rec} (hl : l.length ≤ k) : Few n k { m with au := m.au.set i l } :=
  ⟨h.nL, by simpa using h.nau, h.nhas, h.ndr, h.kL, h.kdr, set_all (P := fun l : List Rec => l.length ≤ k) h.kau hl, h.kses, h.ksn, h.one, h.psn⟩
theorem Few.sethas {n k : Nat} {m : St} (h : Few n k m) (i : Nat) (y : Int) : Few n k { m with has := m.has.set i y } :=
  ⟨h.nL, h.nau, by simpa using h.nhas, h.ndr, h.kL, h.kdr, h.kau, h.kses, h.ksn, h.one, h.psn⟩
theorem Few.write {n k : Nat} {m : St} (h : Few n k m) (o : Opr) : Few n (k + 1) (M.write m o).2 := by
  unfold M.write
  split
  · rename_i hw
    refine (h.mono (Nat.le_succ k)).setdr _ ?_
    have hd := h.getD' o.level.toNat
    unfold wnew
    split
    · exact hd.with (by simp)
    · split
      · exact hd.without _ _
      · split
        · rename_i h7
          refine hd.with ?_
          unfold wbad at hw
          simp only [h7] at hw
          by_cases hv : o.val.length ≤ 400
          · exact hv
          · exfalso
            have hv2 : decide (400 < o.val.length) = true := by simp; omega
            rw [hv2] at hw
            simp at hw
            split at hw
            · cases hw
            · cases hw
        · exact hd.without _ _
  · exact h.mono (Nat.le_succ k)
theorem Few.declassify {n k : Nat} {m : St} (h : Few n k m) (us : List Nat) (gs : List Gr) (o : Opr) : Few n (k + 1) (M.declassify us gs m o).2 := by
  unfold M.declassify
  split
  · have hv : (dval m o).length ≤ 400 := by
      unfold dval
      rw [List.getD_eq_getElem?_getD]
      rcases Nat.lt_or_ge (find (m.L.getD o.label.toNat []) o.bucket o.key).toNat (m.L.getD o.label.toNat []).length with hi | hi
      · rw [List.getElem?_eq_getElem hi, Option.getD_some]
        exact (h.getL _).2 _ (List.getElem_mem _)
      · rw [List.getElem?_eq_none hi, Option.getD_none]
        simp
    have h1 := (h.mono (Nat.le_succ k)).setL o.to.toNat ((h.getL' o.to.toNat).with (e := (o.bucket, o.key, dval m o)) hv)
    exact h1.setau o.to.toNat (l := m.au.getD o.to.toNat [] ++ [drec m o]) (by
      have := h.getA o.to.toNat
      simp
      simpa using this)
  · exact h.mono (Nat.le_succ k)
theorem Few.snap {n k : Nat} {m : St} (h : Few n k m) (o : Opr) : Few n (k + 1) (M.snap m o).2 := by
  unfold M.snap
  split
  · refine (h.mono (Nat.le_succ k)).ses _ ?_ ?_
    · rw [unsnapS_eq]
      split
      · rw [upd_len]; exact Nat.le_succ_of_le h.kses
      · exact Nat.le_succ_of_le h.kses
    · rw [unsnapS_eq]
      split
      · refine one_upd h.one fun s ⟨a, b, c⟩ => ?_
        have h1 : (M.left o.snap s).length ≤ s.snaps.length := List.length_filter_le _ _
        exact ⟨by show (M.left o.snap s).length ≤ k + 1; omega, b, by show s.last ≤ _; omega⟩
      · intro s hs
        obtain ⟨a, b, c⟩ := h.one s hs
        exact ⟨by omega, b, by omega⟩
  · have h1 := (h.mono (Nat.le_succ k)).ses (snapS m.ses o.level o.ses) (by rw [snapS_eq, upd_len]; exact Nat.le_succ_of_le h.kses) (by
      rw [snapS_eq]
      refine one_upd h.one fun s ⟨a, b, c⟩ => ⟨?_, ?_, ?_⟩
      · show (s.snaps ++ [s.last + 1]).length ≤ _
        simp; omega
      · show 0 ≤ s.last + 1; omega
      · show s.last + 1 ≤ ((k + 1 : Nat) : Int); omega)
    refine ⟨h1.nL, h1.nau, h1.nhas, h1.ndr, h1.kL, h1.kdr, h1.kau, h1.kses, ?_, h1.one, ?_⟩
    · show (m.sn ++ [_]).length ≤ k + 1
      have := h.ksn
      simp; omega
    · intro p hp
      rcases List.mem_append.1 hp with hp | hp
      · exact h1.psn p hp
      · rw [List.mem_singleton.1 hp]
        exact ⟨h1.nL, h1.kL⟩
theorem Few.txn {n k : Nat} {m : St} (h : Few n k m) (o : Opr) : Few n (k + 1) (M.txn m o).2 := by
  have h0 := h.mono (Nat.le_succ k)
  unfold M.txn
  simp only []
  split
  · split
    · exact h0
    · exact (h0.sethas o.level.toNat o.ses).setdr o.level.toNat (l := m.L.getD o.level.toNat []) (h0.getL' _)
  · split
    · exact h0
    · have hs : Few n (k + 1) { m with ses := if o.kind = 1 then close m.ses o.level o.ses else m.ses } := by
        refine h0.ses _ ?_ ?_
        · split
          · rw [close_eq, upd_len]; exact Nat.le_succ_of_le h.kses
          · exact Nat.le_succ_of_le h.kses
        · split
          · rw [close_eq]
            exact one_upd h.one fun s _ => ⟨by simp, by simp, by show (0 : Int) ≤ _; omega⟩
          · exact h0.one
      have hL : Few n (k + 1) { m with ses := if o.kind = 1 then close m.ses o.level o.ses else m.ses, L := if (m.has.getD o.level.toNat 0 == o.ses) && decide (o.kind = 3) then m.L.set o.level.toNat (m.dr.getD o.level.toNat []) else m.L } := by
        split
        · exact hs.setL o.level.toNat (h0.getD' _)
        · exact hs
      have hX : ∀ b : Bool, Few n (k + 1) { m with ses := if o.kind = 1 then close m.ses o.level o.ses else m.ses, L := if (m.has.getD o.level.toNat 0 == o.ses) && decide (o.kind = 3) then m.L.set o.level.toNat (m.dr.getD o.level.toNat []) else m.L, has := if b then m.has.set o.level.toNat 0 else m.has } := fun b => by
        cases b
        · exact hL
        · exact hL.sethas o.level.toNat 0
      exact hX _
theorem Few.crash {n k : Nat} {m : St} (h : Few n k m) (o : Opr) : Few n (k + 1) (M.crash m o).2 := by
  have h0 := h.mono (Nat.le_succ k)
  unfold M.crash
  simp only []
  refine ⟨?_, h0.nau, by simp [h0.nL], h0.ndr, ?_, h0.kdr, h0.kau, Nat.zero_le _, Nat.zero_le _, fun s hs => by simp at hs, fun p hp => by simp at hp⟩
  · dsimp only
    split
    · simpa using h0.nL
    · exact h0.nL
  · dsimp only
    split
    · exact set_all (P := Short (k + 1)) h0.kL (h0.getD' _)
    · exact h0.kL
theorem Few.do_ {n k : Nat} {m : St} (h : Few n k m) (us : List Nat) (gs : List Gr) (o : Opr) : Few n (k + 1) (M.do_ us gs m o).2 := by
  have h0 := h.mono (Nat.le_succ k)
  cases hc : check us.length o with
  | false => rw [do_bad hc]; exact h0
  | true =>
    by_cases k0 : o.kind = 0
    · rw [do_open hc k0]
      refine h0.ses _ ?_ ?_
      · show (openS m.ses o.level).length ≤ k + 1
        unfold openS
        have := h.kses
        simp; omega
      · intro s hs
        unfold openS at hs
        rcases List.mem_append.1 hs with hs | hs
        · exact h0.one s hs
        · rw [List.mem_singleton.1 hs]; exact ⟨by simp, by simp, by show (0 : Int) ≤ _; omega⟩
    · by_cases k16 : o.kind = 16
      · rw [do_crash hc k16]; exact h.crash o
      · by_cases hf : sfind m.ses o.level o.ses < 0
        · rw [do_none hc k0 k16 hf]; exact h0
        · rw [do_rest hc k0 k16 hf]
          unfold M.rest
          by_cases h1 : o.kind = 9 ∨ o.kind = 10
          · rw [if_pos h1]; exact h0
          rw [if_neg h1]
          by_cases h2 : o.kind = 11 ∨ o.kind = 12
          · rw [if_pos h2]; exact h.snap o
          rw [if_neg h2]
          by_cases h3 : o.kind = 13 ∨ o.kind = 14
          · rw [if_pos h3]; exact h0
          rw [if_neg h3]
          by_cases h4 : o.kind = 15
          · rw [if_pos h4]; exact h.declassify us gs o
          rw [if_neg h4]
          by_cases h5 : o.kind = 5 ∨ o.kind = 6 ∨ o.kind = 7 ∨ o.kind = 8
          · rw [if_pos h5]; exact h.write o
          rw [if_neg h5]
          exact h.txn o
end M
end Go.Proofs.YtmapmeacjpoaoaaDoor
