/- Numbers taken from bytes, and put into them. No program. -/
import Derived.Test.YtnfhhhcbgipmcaaDoorBase
namespace Go.Proofs.YtnfhhhcbgipmcaaDoor.T

def vals (x : Nat) (l : List UInt8) : Nat := l.foldl (fun x c => x * 256 + c.toNat) x
def val (l : List UInt8) : Nat := vals 0 l
theorem vals_snoc (x : Nat) (l : List UInt8) (c : UInt8) : vals x (l ++ [c]) = vals x l * 256 + c.toNat := by simp [vals]
theorem val_snoc (l : List UInt8) (c : UInt8) : val (l ++ [c]) = val l * 256 + c.toNat := vals_snoc 0 l c
theorem vals_eq : ∀ (l : List UInt8) (x : Nat), vals x l = x * 256 ^ l.length + vals 0 l
  | [], x => by simp [vals]
  | c :: l, x => by
    have e : ∀ y, vals y (c :: l) = vals (y * 256 + c.toNat) l := fun y => rfl
    rw [e, e, vals_eq l (x * 256 + c.toNat), vals_eq l (0 * 256 + c.toNat), List.length_cons, Nat.pow_succ', Nat.add_mul, Nat.zero_mul, Nat.zero_add, Nat.mul_assoc, Nat.add_assoc]
theorem val_lt : ∀ l : List UInt8, val l < 256 ^ l.length
  | [] => by simp [val, vals]
  | c :: l => by
    have e : val (c :: l) = vals (0 * 256 + c.toNat) l := rfl
    rw [e, vals_eq, Nat.zero_mul, Nat.zero_add, List.length_cons, Nat.pow_succ']
    have h := val_lt l
    have hc := c.toNat_lt
    unfold val at h
    have : c.toNat * 256 ^ l.length + 256 ^ l.length ≤ 256 * 256 ^ l.length := by
      rw [← Nat.succ_mul]
      exact Nat.mul_le_mul_right _ (by omega)
    omega
theorem val_lt64 {l : List UInt8} (h : l.length ≤ 8) : val l < 18446744073709551616 :=
  Nat.lt_of_lt_of_le (val_lt l) (Nat.le_trans (Nat.pow_le_pow_right (by decide) h) (by decide))
theorem val_lt8 {l : List UInt8} (h : l.length < 8) : val l < 72057594037927936 :=
  Nat.lt_of_lt_of_le (val_lt l) (Nat.le_trans (Nat.pow_le_pow_right (by decide) (show l.length ≤ 7 by omega)) (by decide))
theorem vals_be : ∀ (k x y : Nat), vals y (be k x) = y * 256 ^ k + x % 256 ^ k
  | 0, x, y => by simp [be, vals, Nat.mod_one]
  | k + 1, x, y => by
    have e : vals y (be (k + 1) x) = vals (y * 256 + (UInt8.ofNat (x / 256 ^ k)).toNat) (be k x) := rfl
    have hm : x % (256 ^ k * 256) = x % 256 ^ k + 256 ^ k * (x / 256 ^ k % 256) := Nat.mod_mul
    have h8 : (2 : Nat) ^ 8 = 256 := rfl
    have hp : (256 : Nat) ^ (k + 1) = 256 ^ k * 256 := rfl
    rw [e, vals_be k, UInt8.toNat_ofNat', hp, hm, h8, Nat.add_mul, Nat.mul_assoc, Nat.mul_comm 256 (256 ^ k), Nat.mul_comm (x / 256 ^ k % 256)]
    omega
theorem val_be {k x : Nat} (h : x < 256 ^ k) : val (be k x) = x := by
  unfold val
  rw [vals_be, Nat.zero_mul, Nat.zero_add, Nat.mod_eq_of_lt h]

/-- One number of so many bytes, of what is left, behind an error or none. -/
def tv (n : Nat) (l : List UInt8) (e : Int) : Nat := if e = 0 then if n ≤ l.length then val (l.take n) else 0 else 0
def tl (n : Nat) (l : List UInt8) (e : Int) : List UInt8 := if e = 0 then if n ≤ l.length then l.drop n else l else l
def te (n : Nat) (l : List UInt8) (e : Int) : Int := if e = 0 then if n ≤ l.length then 0 else 10 else e
theorem tv_bad {n : Nat} {l : List UInt8} {e : Int} (h : e ≠ 0) : tv n l e = 0 ∧ tl n l e = l ∧ te n l e = e := by simp [tv, tl, te, h]
theorem tv_short {n : Nat} {l : List UInt8} (h : ¬ n ≤ l.length) : tv n l 0 = 0 ∧ tl n l 0 = l ∧ te n l 0 = 10 := by simp [tv, tl, te, h]
theorem tv_good {n : Nat} {l : List UInt8} (h : n ≤ l.length) : tv n l 0 = val (l.take n) ∧ tl n l 0 = l.drop n ∧ te n l 0 = 0 := by simp [tv, tl, te, h]
theorem tv_lt {n : Nat} (h : n ≤ 8) (l : List UInt8) (e : Int) : tv n l e < 18446744073709551616 := by
  unfold tv
  split
  · split
    · exact val_lt64 (by rw [List.length_take]; omega)
    · decide
  · decide
theorem tv_one (l : List UInt8) (e : Int) : tv 1 l e < 256 := by
  unfold tv
  split
  · split
    · have := val_lt (l.take 1)
      rw [List.length_take, Nat.min_eq_left (by assumption)] at this
      exact this
    · decide
  · decide

/-- So many numbers of eight bytes. -/
def nums : Nat → List UInt8 → Int → List Nat × List UInt8 × Int
  | 0, l, e => ([], l, e)
  | k + 1, l, e => ((nums k l e).1 ++ [tv 8 (nums k l e).2.1 (nums k l e).2.2], tl 8 (nums k l e).2.1 (nums k l e).2.2, te 8 (nums k l e).2.1 (nums k l e).2.2)
theorem nums_length : ∀ k l e, (nums k l e).1.length = k
  | 0, l, e => rfl
  | k + 1, l, e => by simp [nums, nums_length k l e]
theorem nums_lt : ∀ k l e, ∀ x ∈ (nums k l e).1, x < 18446744073709551616
  | 0, l, e => fun x hx => by cases hx
  | k + 1, l, e => fun x hx => by
    rcases List.mem_append.1 hx with h | h
    · exact nums_lt k l e x h
    · rw [List.mem_singleton.1 h]; exact tv_lt (Nat.le_refl _) _ _
end Go.Proofs.YtnfhhhcbgipmcaaDoor.T
