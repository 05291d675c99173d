
/-
  PLAIN: layer 1 (wire): sums over bytes (CRC-32C), numbers in bytes. No program in sight.
-/
import Derived.RowKit
namespace Go.Proofs.Ytafonjnanfekkaa.Wire
open Go.RowKit

/-! ### the sum -/
def poly : BitVec 32 := 0x82F63B78#32
def stp (c : BitVec 32) : BitVec 32 := (c >>> 1) ^^^ (if c.getLsbD 0 then poly else 0#32)
def stpN : Nat → BitVec 32 → BitVec 32
  | 0, c => c
  | k + 1, c => stp (stpN k c)
theorem stpN_succ (k : Nat) (c : BitVec 32) : stpN (k + 1) c = (stpN k c >>> 1) ^^^ (if (stpN k c).getLsbD 0 then poly else 0#32) := rfl
theorem stpN_zero (c : BitVec 32) : stpN 0 c = c := rfl
def by32 (x : UInt8) : BitVec 32 := BitVec.ofNat 32 x.toNat
def upd (c : BitVec 32) (x : UInt8) : BitVec 32 := stpN 8 (c ^^^ by32 x)
def crcF (c : BitVec 32) (l : List UInt8) : BitVec 32 := l.foldl upd c
/-- The CRC-32C. -/
def crc (seed : BitVec 32) (l : List UInt8) : BitVec 32 := ~~~ (crcF (~~~ seed) l)

theorem xor_left {a b x : BitVec 32} (h : a ^^^ x = b ^^^ x) : a = b := by
  have := congrArg (· ^^^ x) h
  simpa [BitVec.xor_assoc] using this
theorem xor_right {a b x : BitVec 32} (h : x ^^^ a = x ^^^ b) : a = b := by
  rw [BitVec.xor_comm x a, BitVec.xor_comm x b] at h
  exact xor_left h
theorem stp_xor (a b : BitVec 32) : stp (a ^^^ b) = stp a ^^^ stp b := by
  unfold stp
  rw [BitVec.ushiftRight_xor_distrib, BitVec.getLsbD_xor]
  have xc : ∀ x y z : BitVec 32, x ^^^ y ^^^ z = x ^^^ z ^^^ y := fun x y z => by rw [BitVec.xor_assoc, BitVec.xor_comm y z, ← BitVec.xor_assoc]
  have xx : ∀ x y z : BitVec 32, x ^^^ z ^^^ (y ^^^ z) = x ^^^ y := fun x y z => by rw [BitVec.xor_comm y z, ← BitVec.xor_assoc, BitVec.xor_assoc x z z]; simp
  cases a.getLsbD 0 <;> cases b.getLsbD 0 <;> simp only [Bool.xor_false, Bool.xor_true, Bool.not_true, Bool.not_false, if_true, Bool.false_eq_true, if_false, BitVec.xor_zero]
  · rw [BitVec.xor_assoc]
  · exact xc _ _ _
  · exact (xx _ _ _).symm
theorem stpN_xor (k : Nat) (a b : BitVec 32) : stpN k (a ^^^ b) = stpN k a ^^^ stpN k b := by
  induction k with
  | zero => rfl
  | succ k ih => simp only [stpN]; rw [ih, stp_xor]
theorem stpN_low (d : BitVec 32) (h : ∀ i, i < 8 → d.getLsbD i = false) (k : Nat) (hk : k ≤ 8) : stpN k d = d >>> k := by
  induction k with
  | zero => simp [stpN]
  | succ k ih =>
    rw [stpN, ih (by omega), stp]
    have : (d >>> k).getLsbD 0 = false := by rw [BitVec.getLsbD_ushiftRight]; simpa using h k (by omega)
    rw [this]
    simp [← BitVec.shiftRight_add]
theorem by32_high (x : UInt8) (i : Nat) (h : 8 ≤ i) : (by32 x).getLsbD i = false := by
  unfold by32
  rw [BitVec.getLsbD_ofNat]
  have hx : x.toNat < 2 ^ i := Nat.lt_of_lt_of_le x.toNat_lt (Nat.pow_le_pow_right (by omega) h)
  simp [Nat.testBit_lt_two_pow hx]
theorem mask_lsb (c : BitVec 32) (i : Nat) : (c &&& 255#32).getLsbD i = (decide (i < 8) && c.getLsbD i) := by
  rw [BitVec.getLsbD_and]
  have : (255#32).getLsbD i = decide (i < 8) := by
    rw [show (255#32) = BitVec.ofNat 32 (2 ^ 8 - 1) from rfl, BitVec.getLsbD_ofNat, Nat.testBit_two_pow_sub_one]
    by_cases h : i < 8
    · simp [h]; omega
    · simp [h]
  rw [this, Bool.and_comm]
/-- The program's way: a table's step by the low byte, and the rest moved on. -/
theorem upd_eq (c : BitVec 32) (x : UInt8) : stpN 8 ((c ^^^ by32 x) &&& 255#32) ^^^ (c >>> 8) = upd c x := by
  unfold upd
  have hs : c ^^^ by32 x = ((c ^^^ by32 x) &&& 255#32) ^^^ ((c ^^^ by32 x) &&& ~~~ 255#32) := by
    apply BitVec.eq_of_getLsbD_eq
    intro i hi
    generalize c ^^^ by32 x = d
    rw [BitVec.getLsbD_xor, BitVec.getLsbD_and, BitVec.getLsbD_and, BitVec.getLsbD_not]
    cases d.getLsbD i <;> cases (255#32).getLsbD i <;> simp [hi]
  have hl : stpN 8 ((c ^^^ by32 x) &&& ~~~ 255#32) = c >>> 8 := by
    rw [stpN_low _ _ 8 (Nat.le_refl _)]
    · apply BitVec.eq_of_getLsbD_eq
      intro i hi
      rw [BitVec.getLsbD_ushiftRight, BitVec.getLsbD_ushiftRight, BitVec.getLsbD_and, BitVec.getLsbD_not, BitVec.getLsbD_xor, by32_high x (8 + i) (by omega)]
      have hm : (255#32).getLsbD (8 + i) = false := by
        rw [show (255#32) = BitVec.ofNat 32 (2 ^ 8 - 1) from rfl, BitVec.getLsbD_ofNat, Nat.testBit_two_pow_sub_one]; simp
      rw [hm]
      by_cases h8 : 8 + i < 32
      · simp [h8]
      · rw [BitVec.getLsbD_of_ge c (8 + i) (by omega)]; simp
    · intro i hi
      rw [BitVec.getLsbD_and, BitVec.getLsbD_not]
      have hm : (255#32).getLsbD i = true := by
        rw [show (255#32) = BitVec.ofNat 32 (2 ^ 8 - 1) from rfl, BitVec.getLsbD_ofNat, Nat.testBit_two_pow_sub_one]; simp; omega
      rw [hm]; simp
  conv => rhs; rw [hs]
  rw [stpN_xor, hl]
def xb (c : BitVec 32) (x : UInt8) : BitVec 32 := c ^^^ by32 x
def low (d : BitVec 32) : BitVec 32 := d &&& 255#32
theorem crcF_nil (c : BitVec 32) : crcF c [] = c := rfl
theorem crc_eq (s : BitVec 32) (l : List UInt8) : crc s l = ~~~ (crcF (~~~ s) l) := rfl
theorem crcF_append (c : BitVec 32) (a b : List UInt8) : crcF c (a ++ b) = crcF (crcF c a) b := by simp [crcF]
theorem crcF_snoc (c : BitVec 32) (a : List UInt8) (x : UInt8) : crcF c (a ++ [x]) = upd (crcF c a) x := by simp [crcF]
theorem crc_append (s : BitVec 32) (a b : List UInt8) : crc s (a ++ b) = crc (crc s a) b := by
  unfold crc; rw [crcF_append]; simp

/-- A step forgets nothing. -/
theorem stp_inj {a b : BitVec 32} (h : stp a = stp b) : a = b := by
  have h31 : ∀ c : BitVec 32, (stp c).getLsbD 31 = c.getLsbD 0 := by
    intro c
    unfold stp
    rw [BitVec.getLsbD_xor, BitVec.getLsbD_ushiftRight, BitVec.getLsbD_of_ge c (1 + 31) (by omega)]
    cases c.getLsbD 0 <;> simp [poly]
  have h0 : a.getLsbD 0 = b.getLsbD 0 := by rw [← h31 a, ← h31 b, h]
  have hs : a >>> 1 = b >>> 1 := by
    unfold stp at h
    rw [h0] at h
    exact xor_left h
  apply BitVec.eq_of_getLsbD_eq
  intro i hi
  rcases Nat.eq_zero_or_pos i with rfl | hp
  · exact h0
  · have := congrArg (fun z => z.getLsbD (i - 1)) hs
    simp only [BitVec.getLsbD_ushiftRight] at this
    rwa [show 1 + (i - 1) = i by omega] at this
theorem stpN_inj (k : Nat) {a b : BitVec 32} (h : stpN k a = stpN k b) : a = b := by
  induction k with
  | zero => exact h
  | succ k ih => exact ih (stp_inj h)
theorem upd_inj {a b : BitVec 32} {x : UInt8} (h : upd a x = upd b x) : a = b := by
  have := stpN_inj 8 h
  exact xor_left this
theorem crcF_inj (l : List UInt8) : ∀ {a b : BitVec 32}, crcF a l = crcF b l → a = b := by
  induction l with
  | nil => intro a b h; exact h
  | cons x l ih => intro a b h; exact upd_inj (ih h)
theorem by32_inj {x y : UInt8} (h : by32 x = by32 y) : x = y := by
  have := congrArg BitVec.toNat h
  unfold by32 at this
  rw [BitVec.toNat_ofNat, BitVec.toNat_ofNat, Nat.mod_eq_of_lt (by have := x.toNat_lt; omega), Nat.mod_eq_of_lt (by have := y.toNat_lt; omega)] at this
  exact UInt8.toNat_inj.mp this
/-- One byte turned is told. -/
theorem crc_turned (s : BitVec 32) (a : List UInt8) (x y : UInt8) (b : List UInt8) (h : crc s (a ++ x :: b) = crc s (a ++ y :: b)) : x = y := by
  unfold crc at h
  have h1 := BitVec.not_inj.mp h
  rw [crcF_append, crcF_append] at h1
  have h2 : upd (crcF (~~~ s) a) x = upd (crcF (~~~ s) a) y := crcF_inj b h1
  have h3 := stpN_inj 8 h2
  exact by32_inj (xor_right h3)
end Go.Proofs.Ytafonjnanfekkaa.Wire
