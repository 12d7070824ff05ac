/- CRC-32 as a plain function, and its laws: sums go on, are affine, and tell changes within 32 bits on end. No program. -/
namespace Go.Proofs.YtigahgkjidbhbaaDoor.C

def poly : Nat := 3988292384
def top : Nat := 4294967295
def step1 (x : Nat) : Nat := if x % 2 = 1 then x / 2 ^^^ poly else x / 2
def stepN : Nat → Nat → Nat
  | 0, x => x
  | n + 1, x => stepN n (step1 x)
def upd (x : Nat) (c : UInt8) : Nat := stepN 8 (x ^^^ c.toNat)
def run (x : Nat) (l : List UInt8) : Nat := l.foldl upd x
def on (s : Nat) (l : List UInt8) : Nat := top - run (top - s) l
def of (l : List UInt8) : Nat := on 0 l
def num4 (x : Nat) : List UInt8 := [UInt8.ofNat (x / 16777216), UInt8.ofNat (x / 65536), UInt8.ofNat (x / 256), UInt8.ofNat x]
def tag (l : List UInt8) : List UInt8 := num4 (of l) ++ l
def isTag (l : List UInt8) : Bool := decide (4 ≤ l.length) && (tag (l.drop 4) == l)
def opened (l : List UInt8) : List UInt8 := if isTag l then l.drop 4 else []

theorem step1_lt {x : Nat} (h : x < 4294967296) : step1 x < 4294967296 := by
  unfold step1
  split
  · exact Nat.xor_lt_two_pow (n := 32) (by omega) (by decide)
  · omega
theorem stepN_lt : ∀ (n : Nat) {x : Nat}, x < 4294967296 → stepN n x < 4294967296
  | 0, _, h => h
  | n + 1, _, h => stepN_lt n (step1_lt h)
theorem xor_lt {x y : Nat} (hx : x < 4294967296) (hy : y < 4294967296) : x ^^^ y < 4294967296 := Nat.xor_lt_two_pow (n := 32) hx hy
theorem byte_lt (c : UInt8) : c.toNat < 4294967296 := by have := c.toNat_lt; omega
theorem upd_lt {x : Nat} (h : x < 4294967296) (c : UInt8) : upd x c < 4294967296 := stepN_lt 8 (xor_lt h (byte_lt c))
theorem run_lt : ∀ (l : List UInt8) {x : Nat}, x < 4294967296 → run x l < 4294967296
  | [], _, h => h
  | c :: l, _, h => run_lt l (upd_lt h c)
theorem on_lt (s : Nat) (l : List UInt8) : on s l < 4294967296 := by unfold on top; omega
theorem of_lt (l : List UInt8) : of l < 4294967296 := on_lt 0 l
theorem run_snoc (x : Nat) (l : List UInt8) (c : UInt8) : run x (l ++ [c]) = upd (run x l) c := by simp [run]
theorem run_append (x : Nat) (l m : List UInt8) : run x (l ++ m) = run (run x l) m := by simp [run]

/-- A sum goes on. -/
theorem on_of (l m : List UInt8) : on (of l) m = of (l ++ m) := by
  have := run_lt l (x := top - 0) (by decide)
  unfold of on
  rw [run_append]
  congr 2
  unfold top at *
  omega

theorem xor_mod2 (a b : Nat) : (a ^^^ b) % 2 = (a % 2 + b % 2) % 2 := by
  have : (a ^^^ b) % 2 ^ 1 = (a % 2 ^ 1) ^^^ (b % 2 ^ 1) := Nat.xor_mod_two_pow
  simp only [Nat.pow_one] at this
  rw [this]
  rcases Nat.mod_two_eq_zero_or_one a with h | h <;> rcases Nat.mod_two_eq_zero_or_one b with k | k <;> rw [h, k] <;> rfl
theorem xor_div2 (a b : Nat) : (a ^^^ b) / 2 = a / 2 ^^^ b / 2 := by
  have : (a ^^^ b) / 2 ^ 1 = (a / 2 ^ 1) ^^^ (b / 2 ^ 1) := Nat.xor_div_two_pow
  simpa using this

theorem step1_xor (a b : Nat) : step1 (a ^^^ b) = step1 a ^^^ step1 b := by
  unfold step1
  rw [xor_mod2, xor_div2]
  rcases Nat.mod_two_eq_zero_or_one a with h | h <;> rcases Nat.mod_two_eq_zero_or_one b with k | k <;> simp only [h, k]
  · rfl
  · simp [Nat.xor_assoc]
  · simp only [if_true]
    simp only [show ¬ ((0 : Nat) = 1) from by decide, if_false]
    rw [Nat.xor_assoc, Nat.xor_comm (b / 2), Nat.xor_assoc]
  · simp only [show ¬ ((1 + 1) % 2 = 1) from by decide, if_true, if_false]
    rw [Nat.xor_comm (b / 2) poly, Nat.xor_assoc, ← Nat.xor_assoc poly poly, Nat.xor_self, Nat.zero_xor]
theorem stepN_xor : ∀ (n a b : Nat), stepN n (a ^^^ b) = stepN n a ^^^ stepN n b
  | 0, _, _ => rfl
  | n + 1, a, b => by simp only [stepN, step1_xor, stepN_xor n]
theorem stepN_add : ∀ (m n x : Nat), stepN (m + n) x = stepN n (stepN m x)
  | 0, n, x => by simp [stepN]
  | m + 1, n, x => by rw [Nat.add_right_comm]; simp only [stepN]; exact stepN_add m n _

/-- What half a byte does, by the table. -/
def half : List Nat := [0, 498536548, 997073096, 651767980, 1994146192, 1802195444, 1303535960, 1342533948, 3988292384, 4027552580, 3604390888, 3412177804, 2607071920, 2262029012, 2685067896, 3183342108]
theorem half_eq : ∀ r, r < 16 → half.getD r 0 = stepN 4 r := by decide +kernel
theorem half_lt : ∀ r, r < 16 → half.getD r 0 < 4294967296 := by decide +kernel
theorem step1_two (q : Nat) : step1 (2 * q) = q := by unfold step1; rw [if_neg (by omega)]; omega
theorem stepN4_mul (q : Nat) : stepN 4 (16 * q) = q := by
  simp only [stepN]
  rw [show 16 * q = 2 * (2 * (2 * (2 * q))) by omega, step1_two, step1_two, step1_two, step1_two]
theorem split16 (x : Nat) : x = 16 * (x / 16) ^^^ x % 16 := by
  apply Nat.eq_of_testBit_eq
  intro i
  rw [Nat.testBit_xor, show (16 : Nat) = 2 ^ 4 from rfl, Nat.testBit_two_pow_mul, Nat.testBit_mod_two_pow, Nat.testBit_div_two_pow]
  by_cases h : i < 4
  · simp [h, Nat.not_le.2 h]
  · simp [h, Nat.not_lt.1 h]
theorem stepN4 (x : Nat) : stepN 4 x = x / 16 ^^^ half.getD (x % 16) 0 := by
  have h := stepN_xor 4 (16 * (x / 16)) (x % 16)
  rw [← split16, stepN4_mul] at h
  rw [h, half_eq _ (Nat.mod_lt _ (by decide))]
/-- A byte's step in two halves. -/
theorem upd_half (x : Nat) (c : UInt8) :
    upd x c = (let y := (x ^^^ c.toNat) / 16 ^^^ half.getD ((x ^^^ c.toNat) % 16) 0; y / 16 ^^^ half.getD (y % 16) 0) := by
  unfold upd
  rw [show 8 = 4 + 4 from rfl, stepN_add, stepN4, stepN4]

theorem upd_xor (x y : Nat) (c d : UInt8) : upd (x ^^^ y) (c ^^^ d) = upd x c ^^^ upd y d := by
  unfold upd
  rw [← stepN_xor, UInt8.toNat_xor]
  congr 1
  rw [Nat.xor_assoc, Nat.xor_assoc, ← Nat.xor_assoc y, ← Nat.xor_assoc c.toNat, Nat.xor_comm y]
theorem run_xor : ∀ (l m : List UInt8) (x y : Nat), l.length = m.length → run (x ^^^ y) (l.zipWith (· ^^^ ·) m) = run x l ^^^ run y m
  | [], [], _, _, _ => rfl
  | c :: l, d :: m, x, y, h => by
    show run (upd (x ^^^ y) (c ^^^ d)) (l.zipWith (· ^^^ ·) m) = run (upd x c) l ^^^ run (upd y d) m
    rw [upd_xor]
    exact run_xor l m _ _ (by simpa using h)
theorem top_sub (x : Nat) (h : x < 4294967296) : top - x = top ^^^ x := by
  have e : top = 2 ^ 32 - 1 := rfl
  apply Nat.eq_of_testBit_eq
  intro i
  rw [Nat.testBit_xor, show top - x = 2 ^ 32 - (x + 1) from by unfold top; omega, Nat.testBit_two_pow_sub_succ (by simpa using h), e, Nat.testBit_two_pow_sub_one]
  by_cases hi : i < 32
  · simp [hi]
  · simp [hi]
    exact (Nat.testBit_lt_two_pow (Nat.lt_of_lt_of_le h (by simpa using Nat.pow_le_pow_right (n := 2) (by decide) (Nat.not_lt.1 hi)))).symm ▸ rfl

/-- The sum of three rows of bytes, xored byte by byte, is that of their sums. -/
theorem of_xor3 (a b c : List UInt8) (h1 : a.length = b.length) (h2 : a.length = c.length) :
    of ((a.zipWith (· ^^^ ·) b).zipWith (· ^^^ ·) c) = of a ^^^ of b ^^^ of c := by
  unfold of on
  have ha := run_lt a (x := top - 0) (by decide)
  have hb := run_lt b (x := top - 0) (by decide)
  have hc := run_lt c (x := top - 0) (by decide)
  have e : top - 0 = (top - 0) ^^^ (top - 0) ^^^ (top - 0) := by decide
  have r : run (top - 0) ((a.zipWith (· ^^^ ·) b).zipWith (· ^^^ ·) c) = run (top - 0) a ^^^ run (top - 0) b ^^^ run (top - 0) c := by
    conv => lhs; rw [e]
    rw [run_xor _ _ _ _ (by simp; omega), run_xor _ _ _ _ h1]
  rw [r, top_sub _ (xor_lt (xor_lt ha hb) hc), top_sub _ ha, top_sub _ hb, top_sub _ hc]
  generalize run (top - 0) a = p, run (top - 0) b = q, run (top - 0) c = s
  apply Nat.eq_of_testBit_eq
  intro i
  simp only [Nat.testBit_xor]
  cases top.testBit i <;> cases p.testBit i <;> cases q.testBit i <;> cases s.testBit i <;> rfl

/-- One step loses nothing. -/
theorem step1_inj {x : Nat} (hx : x < 4294967296) (h : step1 x = 0) : x = 0 := by
  unfold step1 at h
  split at h
  · have h2 : x / 2 ^^^ poly ^^^ poly = poly := by rw [h, Nat.zero_xor]
    rw [Nat.xor_assoc, Nat.xor_self, Nat.xor_zero] at h2
    unfold poly at h2
    omega
  · omega
theorem stepN_inj : ∀ (n : Nat) {x : Nat}, x < 4294967296 → stepN n x = 0 → x = 0
  | 0, _, _, h => h
  | n + 1, _, hx, h => step1_inj hx (stepN_inj n (step1_lt hx) h)
theorem upd_zero : upd 0 0 = 0 := by decide +kernel
theorem run_zeros : ∀ n, run 0 (List.replicate n 0) = 0
  | 0 => rfl
  | n + 1 => by rw [List.replicate_succ]; show run (upd 0 0) _ = 0; rw [upd_zero]; exact run_zeros n
theorem run_zeros_ne : ∀ (n : Nat) {x : Nat}, x < 4294967296 → x ≠ 0 → run x (List.replicate n 0) ≠ 0
  | 0, _, _, h => h
  | n + 1, x, hx, h => by
    rw [List.replicate_succ]
    show run (upd x 0) _ ≠ 0
    exact run_zeros_ne n (upd_lt hx 0) fun e => h (by
      have := stepN_inj 8 (xor_lt hx (byte_lt 0)) e
      simpa using this)

/-- The bytes as one number, the first the lowest. -/
def val : List UInt8 → Nat
  | [] => 0
  | c :: l => c.toNat + 256 * val l
theorem xor_add (c v : Nat) (h : c < 256) : c + 256 * v = c ^^^ 256 * v := by
  apply Nat.eq_of_testBit_eq
  intro i
  rw [Nat.add_comm, show (256 : Nat) = 2 ^ 8 from rfl, Nat.testBit_two_pow_mul_add _ (by simpa using h), Nat.testBit_xor, Nat.testBit_two_pow_mul]
  by_cases hi : i < 8
  · simp [hi, Nat.not_le.2 hi]
  · simp [hi, Nat.not_lt.1 hi]
    rw [Nat.testBit_lt_two_pow (Nat.lt_of_lt_of_le h (by simpa using Nat.pow_le_pow_right (n := 2) (by decide) (Nat.not_lt.1 hi)))]
    simp
theorem stepN8_mul (q : Nat) : stepN 8 (256 * q) = q := by
  rw [show 8 = 4 + 4 from rfl, stepN_add, show 256 * q = 16 * (16 * q) by omega, stepN4_mul, stepN4_mul]
/-- Bytes that are sent from nothing are so many steps of their number. -/
theorem run_val : ∀ (l : List UInt8) (x : Nat), run x l = stepN (8 * l.length) (x ^^^ val l)
  | [], x => by simp [run, stepN, val]
  | c :: l, x => by
    show run (upd x c) l = _
    rw [run_val l, List.length_cons, show 8 * (l.length + 1) = 8 + 8 * l.length by omega, stepN_add]
    congr 1
    show stepN 8 (x ^^^ c.toNat) ^^^ val l = stepN 8 (x ^^^ (c.toNat + 256 * val l))
    rw [xor_add _ _ c.toNat_lt, ← Nat.xor_assoc, stepN_xor 8 (x ^^^ c.toNat), stepN8_mul]
theorem stepN_two_pow : ∀ (n q : Nat), stepN n (2 ^ n * q) = q
  | 0, q => by simp [stepN]
  | n + 1, q => by
    simp only [stepN]
    rw [show 2 ^ (n + 1) * q = 2 * (2 ^ n * q) by rw [Nat.pow_succ, Nat.mul_comm (2 ^ n) 2, Nat.mul_assoc], step1_two, stepN_two_pow n]
/-- Bytes whose number is a 32-bit number, not 0, some bits up, have another sum than zeros. -/
theorem run_burst (l : List UInt8) (k t : Nat) (ht : t < 4294967296) (h0 : t ≠ 0) (hk : k + 32 ≤ 8 * l.length) (h : val l = 2 ^ k * t) : run 0 l ≠ 0 := by
  rw [run_val, Nat.zero_xor, h, show 8 * l.length = k + (8 * l.length - k) by omega, stepN_add, stepN_two_pow]
  intro e
  exact h0 (stepN_inj _ ht e)

theorem run_change (b d : List UInt8) (x : Nat) (hl : b.length = d.length) : run x (b.zipWith (· ^^^ ·) d) = run x b ^^^ run 0 d := by
  have := run_xor b d x 0 hl
  rwa [Nat.xor_zero] at this
theorem xor_ne {a b : Nat} (h : b ≠ 0) : a ^^^ b ≠ a := fun e => h (by
  have h2 : a ^^^ (a ^^^ b) = a ^^^ a := by rw [e]
  rwa [← Nat.xor_assoc, Nat.xor_self, Nat.zero_xor] at h2)
theorem of_change (b d : List UInt8) (hl : b.length = d.length) (h : run 0 d ≠ 0) : of (b.zipWith (· ^^^ ·) d) ≠ of b := by
  unfold of on
  have hb := run_lt b (x := top - 0) (by decide)
  have hc := run_lt (b.zipWith (· ^^^ ·) d) (x := top - 0) (by decide)
  intro e
  have e2 : run (top - 0) (b.zipWith (· ^^^ ·) d) = run (top - 0) b := by unfold top at *; omega
  rw [run_change _ _ _ hl] at e2
  exact xor_ne h e2

theorem num4_length (x : Nat) : (num4 x).length = 4 := rfl
theorem num4_inj {x y : Nat} (hx : x < 4294967296) (hy : y < 4294967296) (h : num4 x = num4 y) : x = y := by
  simp only [num4, List.cons.injEq, and_true] at h
  obtain ⟨h1, h2, h3, h4⟩ := h
  have g : ∀ a b : Nat, UInt8.ofNat a = UInt8.ofNat b → a % 256 = b % 256 := fun a b e => by
    have := congrArg UInt8.toNat e
    simpa using this
  have := g _ _ h1
  have := g _ _ h2
  have := g _ _ h3
  have := g _ _ h4
  omega
theorem tag_length (l : List UInt8) : (tag l).length = l.length + 4 := by simp [tag, num4]
theorem tag_drop (l : List UInt8) : (tag l).drop 4 = l := by simp [tag, num4]
theorem isTag_tag (l : List UInt8) : isTag (tag l) = true := by simp [isTag, tag_drop, tag_length]
theorem opened_tag (l : List UInt8) : opened (tag l) = l := by rw [opened, if_pos (isTag_tag l), tag_drop]
/-- Other bytes behind a sum are opened just where the sum is the same. -/
theorem isTag_other (b c : List UInt8) : isTag (num4 (of b) ++ c) = (of c == of b) := by
  have e : (num4 (of b) ++ c).drop 4 = c := by simp [num4]
  unfold isTag
  rw [e]
  have h4 : 4 ≤ (num4 (of b) ++ c).length := by simp [num4_length]
  simp only [h4, decide_true, Bool.true_and, tag]
  rw [Bool.eq_iff_iff]
  simp only [beq_iff_eq, List.append_cancel_right_eq]
  exact ⟨fun h => num4_inj (of_lt _) (of_lt _) h, fun h => by rw [h]⟩

theorem mul256_xor (a b : Nat) : 256 * (a ^^^ b) = 256 * a ^^^ 256 * b := by
  apply Nat.eq_of_testBit_eq
  intro i
  rw [show (256 : Nat) = 2 ^ 8 from rfl, Nat.testBit_xor, Nat.testBit_two_pow_mul, Nat.testBit_two_pow_mul, Nat.testBit_two_pow_mul, Nat.testBit_xor]
  by_cases h : 8 ≤ i <;> simp [h]
theorem val_set : ∀ (l : List UInt8) (q : Nat) (c : UInt8) (h : q < l.length), val (l.set q (l[q] ^^^ c)) = val l ^^^ 2 ^ (8 * q) * c.toNat
  | x :: l, 0, c, _ => by
    show (x ^^^ c).toNat + 256 * val l = (x.toNat + 256 * val l) ^^^ _
    rw [xor_add _ _ (x ^^^ c).toNat_lt, xor_add _ _ x.toNat_lt, UInt8.toNat_xor]
    simp only [Nat.mul_zero, Nat.pow_zero, Nat.one_mul]
    rw [Nat.xor_assoc, Nat.xor_comm c.toNat, ← Nat.xor_assoc]
  | x :: l, q + 1, c, h => by
    have hq : q < l.length := by simpa using h
    have ih := val_set l q c hq
    show x.toNat + 256 * val (l.set q (l[q] ^^^ c)) = (x.toNat + 256 * val l) ^^^ _
    rw [ih, xor_add _ _ x.toNat_lt, xor_add _ _ x.toNat_lt, mul256_xor, Nat.xor_assoc]
    congr 2
    rw [show 8 * (q + 1) = 8 + 8 * q by omega, Nat.pow_add, Nat.mul_assoc]
theorem xor_two_pow (k x : Nat) (h : x < 2 ^ k) : x ^^^ 2 ^ k = x + 2 ^ k := by
  apply Nat.eq_of_testBit_eq
  intro i
  rw [Nat.testBit_xor, Nat.add_comm, show 2 ^ k + x = 2 ^ k * 1 + x by omega, Nat.testBit_two_pow_mul_add _ h, Nat.testBit_two_pow]
  by_cases hi : i < k
  · simp [hi, show ¬ k = i by omega]
  · by_cases he : k = i
    · subst he; simp [Nat.testBit_lt_two_pow h]
    · simp only [hi, if_false, he, decide_false, Bool.xor_false]
      rw [Nat.testBit_lt_two_pow (Nat.lt_of_lt_of_le h (Nat.pow_le_pow_right (by decide) (Nat.not_lt.1 hi)))]
      have : i - k ≠ 0 := by omega
      rw [show (1 : Nat) = 2 ^ 0 from rfl, Nat.testBit_two_pow]
      simp; omega

/-- What of a turn has been done: the bytes m are l with a number's bits turned. -/
def Turned (l m : List UInt8) (v : Nat) : Prop := ∃ d : List UInt8, d.length = l.length ∧ m = l.zipWith (· ^^^ ·) d ∧ val d = v
theorem val_zeros : ∀ n, val (List.replicate n 0) = 0
  | 0 => rfl
  | n + 1 => by
    show (0 : UInt8).toNat + 256 * val (List.replicate n 0) = 0
    rw [val_zeros n]; rfl
theorem Turned.start (l : List UInt8) : Turned l l 0 := ⟨List.replicate l.length 0, by simp, (zipWith_zeros' l).symm, val_zeros _⟩
where zipWith_zeros' : ∀ (l : List UInt8), l.zipWith (· ^^^ ·) (List.replicate l.length 0) = l
  | [] => rfl
  | c :: l => by
    rw [List.length_cons, List.replicate_succ, List.zipWith_cons_cons, zipWith_zeros' l]
    simp
theorem Turned.length {l m : List UInt8} {v : Nat} (h : Turned l m v) : m.length = l.length := by
  obtain ⟨d, h1, rfl, -⟩ := h
  simp [h1]
theorem set_zipWith : ∀ (l d : List UInt8) (q : Nat) (c : UInt8) (_hl : q < l.length) (hd : q < d.length) (hz : q < (l.zipWith (· ^^^ ·) d).length),
    (l.zipWith (· ^^^ ·) d).set q ((l.zipWith (· ^^^ ·) d)[q] ^^^ c) = l.zipWith (· ^^^ ·) (d.set q (d[q] ^^^ c))
  | x :: l, y :: d, 0, c, _, _, _ => by
    show (x ^^^ y ^^^ c) :: _ = (x ^^^ (y ^^^ c)) :: _
    rw [UInt8.xor_assoc]
  | x :: l, y :: d, q + 1, c, hl, hd, hz => by
    show (x ^^^ y) :: _ = (x ^^^ y) :: _
    congr 1
    exact set_zipWith l d q c (by simpa using hl) (by simpa using hd) (by simpa using hz)
/-- One bit more. -/
theorem Turned.bit {l m : List UInt8} {bit t i : Nat} (h : Turned l m (2 ^ bit * (t % 2 ^ i))) (hodd : t / 2 ^ i % 2 = 1) (c : UInt8) (q r : Nat) (hc : c.toNat = 2 ^ r) (hqr : 8 * q + r = bit + i) (hq : q < m.length) :
    Turned l (m.set q (m[q] ^^^ c)) (2 ^ bit * (t % 2 ^ (i + 1))) := by
  have hm := h.length
  obtain ⟨d, h1, rfl, h3⟩ := h
  refine ⟨d.set q (d[q]'(by omega) ^^^ c), by simp [h1], set_zipWith l d q c (by omega) (by omega) hq, ?_⟩
  have hlt : 2 ^ bit * (t % 2 ^ i) < 2 ^ (bit + i) := by
    rw [Nat.pow_add]
    exact Nat.mul_lt_mul_of_pos_left (Nat.mod_lt _ (Nat.two_pow_pos i)) (Nat.two_pow_pos bit)
  rw [val_set, h3, hc, ← Nat.pow_add, hqr, xor_two_pow _ _ hlt, Nat.mod_pow_succ, hodd, Nat.pow_add]
  rw [Nat.mul_one, ← Nat.mul_add]
theorem Turned.keep {l m : List UInt8} {bit t i : Nat} (h : Turned l m (2 ^ bit * (t % 2 ^ i))) (heven : ¬ t / 2 ^ i % 2 = 1) : Turned l m (2 ^ bit * (t % 2 ^ (i + 1))) := by
  rw [Nat.mod_pow_succ, show t / 2 ^ i % 2 = 0 by omega, Nat.mul_zero, Nat.add_zero]
  exact h
theorem Turned.done {l m : List UInt8} {bit t : Nat} (h : Turned l m (2 ^ bit * (t % 2 ^ 32))) (ht : t < 4294967296) (h0 : t ≠ 0) (hk : bit + 32 ≤ 8 * l.length) : of m ≠ of l := by
  obtain ⟨d, h1, rfl, h3⟩ := h
  rw [Nat.mod_eq_of_lt (by omega)] at h3
  exact of_change l d h1.symm (run_burst d bit t ht h0 (by omega) h3)

/-- A byte less at the end. -/
theorem isTag_less (l : List UInt8) (h : l ≠ []) : isTag ((tag l).take (l.length + 3)) = (of (l.take (l.length - 1)) == of l) := by
  have hl : 0 < l.length := List.length_pos_iff.2 h
  have e : (tag l).take (l.length + 3) = num4 (of l) ++ l.take (l.length - 1) := by
    unfold tag
    rw [List.take_append, num4_length, List.take_of_length_le (by rw [num4_length]; omega), show l.length + 3 - 4 = l.length - 1 by omega]
  rw [e, isTag_other]
theorem zipWith_zeros : ∀ (l : List UInt8), l.zipWith (· ^^^ ·) (List.replicate l.length 0) = l
  | [] => rfl
  | c :: l => by
    rw [List.length_cons, List.replicate_succ, List.zipWith_cons_cons, zipWith_zeros l]
    simp
/-- The first byte turned. -/
theorem isTag_first (c : UInt8) (l : List UInt8) (x : UInt8) : isTag (num4 (of (c :: l)) ++ (c ^^^ x) :: l) = (x == 0) := by
  rw [isTag_other]
  by_cases hx : x = 0
  · subst hx
    simp
  · have e : (c ^^^ x) :: l = (c :: l).zipWith (· ^^^ ·) (x :: List.replicate l.length 0) := by
      rw [List.zipWith_cons_cons, zipWith_zeros]
    have h0 : x.toNat ≠ 0 := fun h => hx (UInt8.toNat_inj.1 (by simpa using h))
    have hr : run 0 (x :: List.replicate l.length 0) ≠ 0 := by
      show run (upd 0 x) _ ≠ 0
      refine run_zeros_ne _ (upd_lt (by decide) x) fun h => h0 ?_
      have := stepN_inj 8 (xor_lt (by decide) (byte_lt x)) h
      simpa using this
    have hne := of_change (c :: l) (x :: List.replicate l.length 0) (by simp) hr
    rw [← e] at hne
    have h1 : (of ((c ^^^ x) :: l) == of (c :: l)) = false := by simpa using hne
    have h2 : (x == 0) = false := by simpa using hx
    rw [h1, h2]

end Go.Proofs.YtigahgkjidbhbaaDoor.C
