
/-
  PLAIN: layer 1 (wire): numbers in bytes.
-/
import Derived.Test.YtafonjnanfekkaaWireM
namespace Go.Proofs.Ytafonjnanfekkaa.Wire
open Go.RowKit

/-- Bytes as a number, the lowest first. -/
def num : List UInt8 → Nat
  | [] => 0
  | c :: l => c.toNat + 256 * num l
/-- A number as n bytes. -/
def le : Nat → Nat → List UInt8
  | 0, _ => []
  | n + 1, x => UInt8.ofNat (x % 256) :: le n (x / 256)
theorem le_length (n : Nat) : ∀ x, (le n x).length = n := by
  induction n with
  | zero => intro x; rfl
  | succ n ih => intro x; simp [le, ih]
theorem num_lt (l : List UInt8) : num l < 256 ^ l.length := by
  induction l with
  | nil => simp [num]
  | cons c l ih =>
    have := c.toNat_lt
    simp only [num, List.length_cons, Nat.pow_succ]
    omega
theorem num_le (n : Nat) : ∀ x, x < 256 ^ n → num (le n x) = x := by
  induction n with
  | zero => intro x h; simp at h; simp [le, num, h]
  | succ n ih =>
    intro x h
    have h2 : x / 256 < 256 ^ n := by rw [Nat.pow_succ] at h; exact Nat.div_lt_of_lt_mul (by rw [Nat.mul_comm]; exact h)
    simp only [le, num]
    rw [ih _ h2, UInt8.toNat_ofNat']
    have : x % 256 < 2 ^ 8 := Nat.mod_lt _ (by omega)
    rw [Nat.mod_eq_of_lt this]; omega
theorem le_num (l : List UInt8) : le l.length (num l) = l := by
  induction l with
  | nil => rfl
  | cons c l ih =>
    simp only [List.length_cons, le, num]
    have h1 : (c.toNat + 256 * num l) % 256 = c.toNat := by have := c.toNat_lt; omega
    have h2 : (c.toNat + 256 * num l) / 256 = num l := by have := c.toNat_lt; omega
    rw [h1, h2, ih]
    simp
theorem num_snoc (l : List UInt8) (c : UInt8) : num (l ++ [c]) = num l + 256 ^ l.length * c.toNat := by
  induction l with
  | nil => simp [num]
  | cons a l ih =>
    simp only [List.cons_append, num, List.length_cons, ih, Nat.pow_succ]
    rw [Nat.mul_add, ← Nat.mul_assoc, Nat.mul_comm 256 (256 ^ l.length)]; omega
theorem num_append (a b : List UInt8) : num (a ++ b) = num a + 256 ^ a.length * num b := by
  induction a with
  | nil => simp [num]
  | cons c l ih =>
    simp only [List.cons_append, num, List.length_cons, ih, Nat.pow_succ]
    rw [Nat.mul_add, ← Nat.mul_assoc, Nat.mul_comm 256 (256 ^ l.length)]; omega
theorem le_get (n : Nat) : ∀ (x i : Nat), i < n → (le n x)[i]? = some (UInt8.ofNat (x / 256 ^ i % 256)) := by
  induction n with
  | zero => intro x i h; omega
  | succ n ih =>
    intro x i h
    cases i with
    | zero => simp [le]
    | succ i =>
      simp only [le, List.getElem?_cons_succ]
      rw [ih _ i (by omega), Nat.div_div_eq_div_mul, Nat.pow_succ, Nat.mul_comm 256]
theorem num_inj {a b : List UInt8} (hl : a.length = b.length) (h : num a = num b) : a = b := by
  rw [← le_num a, ← le_num b, hl, h]

/-- Are there n bytes at a place? -/
def fits (len : Nat) (at_ n : Int) : Bool := decide (1 ≤ n) && decide (n ≤ 8) && decide (0 ≤ at_) && decide (at_ ≤ len) && decide (n ≤ len - at_)
theorem fits_true {len : Nat} {at_ n : Int} (h : fits len at_ n = true) : 1 ≤ n ∧ n ≤ 8 ∧ 0 ≤ at_ ∧ at_ ≤ len ∧ n ≤ len - at_ := by
  simpa [fits, and_assoc] using h
theorem fits_mk {len : Nat} {at_ n : Int} (h1 : 1 ≤ n) (h2 : n ≤ 8) (h3 : 0 ≤ at_) (h4 : n ≤ len - at_) : fits len at_ n = true := by
  simp [fits]; omega
theorem fits_false {len : Nat} {at_ n : Int} (h : fits len at_ n = false) : n < 1 ∨ 8 < n ∨ at_ < 0 ∨ (len : Int) < at_ ∨ (len : Int) - at_ < n := by
  simp [fits] at h
  omega
/-- The bytes at a place. -/
def sub (bs : List UInt8) (at_ n : Int) : List UInt8 := (bs.drop at_.toNat).take n.toNat
theorem sub_length {bs : List UInt8} {at_ n : Int} (h : fits bs.length at_ n = true) : (sub bs at_ n).length = n.toNat := by
  obtain ⟨h1, h2, h3, h4, h5⟩ := fits_true h
  simp [sub]; omega
/-- Get: the number, and the error. -/
def getX (bs : List UInt8) (at_ n : Int) : Nat := if fits bs.length at_ n = true then num (sub bs at_ n) else 0
def getE (len : Nat) (at_ n : Int) : Int := if fits len at_ n = true then 0 else 22
/-- Put: the bytes then, and the error. -/
def putB (bs : List UInt8) (at_ n : Int) (x : Nat) : List UInt8 := if fits bs.length at_ n = true then (if x < 256 ^ n.toNat then lay bs at_.toNat (le n.toNat x) else bs) else bs
where lay (bs : List UInt8) (off : Nat) (new : List UInt8) : List UInt8 := bs.take off ++ new ++ bs.drop (off + new.length)
def putE (len : Nat) (at_ n : Int) (x : Nat) : Int := if fits len at_ n = true then (if x < 256 ^ n.toNat then 0 else 34) else 22
theorem num_lt64 {l : List UInt8} (h : l.length ≤ 8) : num l < 18446744073709551616 :=
  Nat.lt_of_lt_of_le (num_lt l) (Nat.le_trans (Nat.pow_le_pow_right (by omega) h) (by decide))
/-- Are bytes sealed? -/
def sealedB (seed : BitVec 32) (bs : List UInt8) : Bool := decide (4 ≤ bs.length) && (num (bs.drop (bs.length - 4)) == (crc seed (bs.take (bs.length - 4))).toNat)
/-- The bytes when they are sealed. -/
def sealB (seed : BitVec 32) (bs : List UInt8) : List UInt8 := if 4 ≤ bs.length then bs.take (bs.length - 4) ++ le 4 (crc seed (bs.take (bs.length - 4))).toNat else bs
def sealE (len : Nat) : Int := if 4 ≤ len then 0 else 22
end Go.Proofs.Ytafonjnanfekkaa.Wire
