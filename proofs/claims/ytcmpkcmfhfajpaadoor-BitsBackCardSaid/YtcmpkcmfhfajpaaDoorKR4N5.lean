
/-
  PLAIN: layer 5 (bits): bits in bytes.
  THE WALKS of bits.set, bits.Test.
  THE WALKS of bits.Check, bits.New.
  THE WALK of bits.Turn.
  THE WALKS of math/bits' OnesCount8, Len, TrailingZeros; bits.Zeros.
  THE WALKS of bits' buddies: put, split.
  THE WALK of bits' split.
  THE WALKS of bits.buddiesOf, bits.Orders.
-/
import Derived.Test.YtcmpkcmfhfajpaaDoorKR4N4
import Derived.Test.YtcmpkcmfhfajpaaDoorKR4N1
import Derived.Test.YtcmpkcmfhfajpaaDoorKR4N3
import Derived.Test.YtcmpkcmfhfajpaaDoorKR4N2
import Derived.StillTailTactics
import Derived.Lib.TrailingZeros
import Derived.Lib.BitFns
import Derived.Lib.Strings
import Derived.Lib.Slices
import Derived.Lib.Small
import Derived.Lib.Walk
import Derived.Laws.Bits64b
namespace Go.Proofs.YtcmpkcmfhfajpaaDoor.Bits
open Go.RowKit Go.Proofs.YtcmpkcmfhfajpaaDoor.Wire
set_option linter.unusedVariables false
set_option linter.unusedSimpArgs false

def bitB (bs : List UInt8) (i : Nat) : Bool := (bs.getD (i / 8) 0).toNat.testBit (i % 8)
/-- Is a bit set? (Those that are not there are.) -/
def setN (bs : List UInt8) (i : Nat) : Bool := decide (2016 ≤ i) || (decide (bs.length ≤ i / 8) || bitB bs i)
def setZ (bs : List UInt8) (i : Int) : Bool := decide (i < 0) || setN bs i.toNat
theorem setN_far (bs : List UInt8) (i : Nat) (h : 2016 ≤ i) : setN bs i = true := by simp [setN, h]
theorem setN_in {bs : List UInt8} {i : Nat} {x : UInt8} (hi : i < 2016) (hx : bs[i / 8]? = some x) : setN bs i = x.toNat.testBit (i % 8) := by
  have hl := (List.getElem?_eq_some_iff.1 hx).1
  have h1 : decide (2016 ≤ i) = false := by simp; omega
  have h2 : decide (bs.length ≤ i / 8) = false := by simp; omega
  rw [setN, h1, h2, bitB, List.getD_eq_getElem?_getD, hx]; rfl
def orB (x : UInt8) (r : Nat) : UInt8 := ⟨x.toBitVec ||| BitVec.ofNat 8 (2 ^ r)⟩
def xorB (x : UInt8) (r : Nat) : UInt8 := ⟨x.toBitVec ^^^ BitVec.ofNat 8 (2 ^ r)⟩
theorem and_bit_f : ∀ (x : Fin 256) (r : Fin 8), (bits .and .u8 ((x.val : Int) / 2 ^ r.val) 1 != 0) = x.val.testBit r.val := by decide +kernel
theorem and_bit (x : UInt8) (r : Nat) (hr : r < 8) : (bits .and .u8 ((x.toNat : Int) / 2 ^ r) 1 != 0) = x.toNat.testBit r := and_bit_f ⟨x.toNat, x.toNat_lt⟩ ⟨r, hr⟩
theorem or_bit_f : ∀ (x : BitVec 8) (r : Fin 8), bits .or .u8 (x.toNat : Int) (2 ^ r.val % 256) = ((x ||| BitVec.ofNat 8 (2 ^ r.val)).toNat : Int) := by decide +kernel
theorem xor_bit_f : ∀ (x : BitVec 8) (r : Fin 8), bits .xor .u8 (x.toNat : Int) (2 ^ r.val % 256) = ((x ^^^ BitVec.ofNat 8 (2 ^ r.val)).toNat : Int) := by decide +kernel
theorem or_bit (x : UInt8) (r : Nat) (hr : r < 8) : bits .or .u8 (x.toNat : Int) (2 ^ r % 256) = ((orB x r).toNat : Int) := or_bit_f x.toBitVec ⟨r, hr⟩
theorem xor_bit (x : UInt8) (r : Nat) (hr : r < 8) : bits .xor .u8 (x.toNat : Int) (2 ^ r % 256) = ((xorB x r).toNat : Int) := xor_bit_f x.toBitVec ⟨r, hr⟩
theorem or_test_f : ∀ (x : BitVec 8) (r q : Fin 8), (x ||| BitVec.ofNat 8 (2 ^ r.val)).toNat.testBit q.val = (x.toNat.testBit q.val || q.val == r.val) := by decide +kernel
theorem xor_test_f : ∀ (x : BitVec 8) (r q : Fin 8), (x ^^^ BitVec.ofNat 8 (2 ^ r.val)).toNat.testBit q.val = (x.toNat.testBit q.val ^^ (q.val == r.val)) := by decide +kernel
theorem or_test (x : UInt8) (r q : Nat) (hr : r < 8) (hq : q < 8) : (orB x r).toNat.testBit q = (x.toNat.testBit q || q == r) := or_test_f x.toBitVec ⟨r, hr⟩ ⟨q, hq⟩
theorem xor_test (x : UInt8) (r q : Nat) (hr : r < 8) (hq : q < 8) : (xorB x r).toNat.testBit q = (x.toNat.testBit q ^^ (q == r)) := xor_test_f x.toBitVec ⟨r, hr⟩ ⟨q, hq⟩
/-- A bit set; a bit turned. -/
def setOn (bs : List UInt8) (i : Nat) : List UInt8 := bs.set (i / 8) (orB (bs.getD (i / 8) 0) (i % 8))
def turnAt (bs : List UInt8) (i : Nat) : List UInt8 := bs.set (i / 8) (xorB (bs.getD (i / 8) 0) (i % 8))
theorem setOn_length (bs : List UInt8) (i : Nat) : (setOn bs i).length = bs.length := by simp [setOn]
theorem turnAt_length (bs : List UInt8) (i : Nat) : (turnAt bs i).length = bs.length := by simp [turnAt]
theorem bitB_setOn (bs : List UInt8) (i j : Nat) (h : i / 8 < bs.length) : bitB (setOn bs i) j = (bitB bs j || j == i) := by
  unfold bitB setOn
  by_cases e : i / 8 = j / 8
  · rw [List.getD_eq_getElem?_getD, ← e, List.getElem?_set_self h]
    simp only [Option.getD_some]
    rw [or_test _ _ _ (Nat.mod_lt _ (by omega)) (Nat.mod_lt _ (by omega))]
    congr 1
    by_cases e2 : j % 8 = i % 8
    · have : j = i := by omega
      simp [this]
    · have : j ≠ i := fun e3 => e2 (by rw [e3])
      rw [beq_eq_false_iff_ne.2 e2, beq_eq_false_iff_ne.2 this]
  · rw [List.getD_eq_getElem?_getD, List.getElem?_set_ne e, ← List.getD_eq_getElem?_getD]
    have : j ≠ i := fun e3 => e (by rw [e3])
    rw [beq_eq_false_iff_ne.2 this, Bool.or_false]
theorem bitB_turnAt (bs : List UInt8) (i j : Nat) (h : i / 8 < bs.length) : bitB (turnAt bs i) j = (bitB bs j ^^ (j == i)) := by
  unfold bitB turnAt
  by_cases e : i / 8 = j / 8
  · rw [List.getD_eq_getElem?_getD, ← e, List.getElem?_set_self h]
    simp only [Option.getD_some]
    rw [xor_test _ _ _ (Nat.mod_lt _ (by omega)) (Nat.mod_lt _ (by omega))]
    congr 1
    by_cases e2 : j % 8 = i % 8
    · have : j = i := by omega
      simp [this]
    · have : j ≠ i := fun e3 => e2 (by rw [e3])
      rw [beq_eq_false_iff_ne.2 e2, beq_eq_false_iff_ne.2 this]
  · rw [List.getD_eq_getElem?_getD, List.getElem?_set_ne e, ← List.getD_eq_getElem?_getD]
    have : j ≠ i := fun e3 => e (by rw [e3])
    rw [beq_eq_false_iff_ne.2 this, Bool.xor_false]
theorem byte_ext_f : ∀ (x y : BitVec 8), (∀ r : Fin 8, x.toNat.testBit r.val = y.toNat.testBit r.val) → x = y := fun x y h => by
  apply BitVec.eq_of_getLsbD_eq
  intro i hi
  exact h ⟨i, hi⟩
/-- Bytes whose bits are the same. -/
theorem bits_ext {a b : List UInt8} (hl : a.length = b.length) (h : ∀ i, i < 8 * a.length → bitB a i = bitB b i) : a = b := by
  apply List.ext_getElem hl
  intro j h1 h2
  have : a[j].toBitVec = b[j].toBitVec := byte_ext_f _ _ fun r => by
    have := h (8 * j + r.val) (by have := r.isLt; omega)
    unfold bitB at this
    have e1 : (8 * j + r.val) / 8 = j := by have := r.isLt; omega
    have e2 : (8 * j + r.val) % 8 = r.val := by have := r.isLt; omega
    rw [e1, e2, List.getD_eq_getElem?_getD, List.getD_eq_getElem?_getD, List.getElem?_eq_getElem h1, List.getElem?_eq_getElem h2] at this
    exact this
  exact UInt8.toBitVec_inj.1 this
/-- Sealed, only what lies ahead of the sum counts. -/
theorem seal_congr {a b : List UInt8} (seed : BitVec 32) (ha : a.length = 256) (hb : b.length = 256) (h : a.take 252 = b.take 252) : sealB seed a = sealB seed b := by
  rw [sealB, sealB, if_pos (by omega), if_pos (by omega), ha, hb, show 256 - 4 = 252 from rfl, h]
theorem bitB_take {a : List UInt8} {i n : Nat} (h : i < 8 * n) : bitB (a.take n) i = bitB a i := by
  unfold bitB
  rw [List.getD_eq_getElem?_getD, List.getD_eq_getElem?_getD, List.getElem?_take, if_pos (by omega)]
theorem seal_bits {a b : List UInt8} (seed : BitVec 32) (ha : a.length = 256) (hb : b.length = 256) (h : ∀ i, i < 2016 → bitB a i = bitB b i) : sealB seed a = sealB seed b := by
  refine seal_congr seed ha hb (bits_ext (by simp [ha, hb]) fun i hi => ?_)
  rw [List.length_take, ha] at hi
  have : i < 2016 := by omega
  rw [bitB_take (by omega), bitB_take (by omega)]
  exact h i this
theorem bitB_seal {a : List UInt8} (seed : BitVec 32) (ha : a.length = 256) {i : Nat} (h : i < 2016) : bitB (sealB seed a) i = bitB a i := by
  have e : (sealB seed a).take 252 = a.take 252 := by
    rw [sealB, if_pos (by omega), ha, List.take_append_of_le_length (by simp [ha]), List.take_of_length_le (by simp [ha])]
  rw [← bitB_take (a := sealB seed a) (n := 252) (by omega), e, bitB_take (by omega)]
end Go.Proofs.YtcmpkcmfhfajpaaDoor.Bits

namespace Go.Proofs.YtcmpkcmfhfajpaaDoor.Bits
open Go.RowKit
set_option maxHeartbeats 8000000
set_option maxRecDepth 100000
set_option linter.unusedVariables false
set_option linter.unusedSimpArgs false

theorem set_in (A : Option Addr) (n c : Nat) (bs : List UInt8) (i : Nat) (x : UInt8) (w : World) (hb : BytesAt w A n bs) (hi : i < 2016) (hx : bs[i / 8]? = some x) :
    Calls Tryd.prog 27 #[.slice A n c, .int .i64 (i : Int)] w fun e w' => e = .returned (.bool (x.toNat.testBit (i % 8))) ∧ w = w' := by
  have hl := hb.len
  have hlt : i / 8 < n := by have := (List.getElem?_eq_some_iff.1 hx).1; omega
  obtain ⟨a, c', rfl, hc, hcell⟩ := hb.at_ hlt
  obtain rfl : x = c' := by rw [hx] at hc; injection hc
  have g0 : (0 : Int) ≤ (i : Int) := by omega
  have g1 : (i : Int) < 2016 := by omega
  have e1 : (i : Int) / 8 = ((i / 8 : Nat) : Int) := by omega
  have e2 : (i : Int) % 8 = ((i % 8 : Nat) : Int) := by omega
  have e3 : (i : Int).tmod 8 = ((i % 8 : Nat) : Int) := by rw [Int.tmod_eq_emod_of_nonneg (by omega)]; omega
  have e4 : IntKind.i64.wrap ((i / 8 : Nat) : Int) = ((i / 8 : Nat) : Int) := by rw [IntKind.wrap_i64]; omega
  have g2 : ((i / 8 : Nat) : Int) < (n : Int) := by omega
  have g3 : (0 : Int) ≤ ((i / 8 : Nat) : Int) := by omega
  have g4 : (0 : Int) ≤ ((i % 8 : Nat) : Int) := by omega
  have g5 : ¬ ((i % 8 : Nat) : Int) < 0 := by omega
  have hr8 : i % 8 < 8 := Nat.mod_lt _ (by omega)
  generalize i / 8 = j at *
  generalize i % 8 = r at *
  clear hb hx hc hl
  go_enter Tryd.func27, Tryd.ntmps27
  have HAB := Lib.hid (and_bit x r hr8)
  go_wp2_with fail
  go_ret
  refine ⟨?_, rfl⟩
  have n1 : decide ((i : Int) < 0) = false := by simp
  have n2 : decide ((2016 : Int) ≤ (i : Int)) = false := by simp; omega
  have n3 : decide (n ≤ j) = false := by simp; omega
  rw [← HAB.out]
  show Ending.returned (.bool (decide ((i : Int) < 0) || decide ((2016 : Int) ≤ (i : Int)) || decide (n ≤ j) || bits .and .u8 ((x.toNat : Int) / 2 ^ r) 1 != 0)) = _
  rw [n1, n2, n3]; rfl
theorem set_out (A : Option Addr) (n c : Nat) (bs : List UInt8) (z : Int) (w : World) (hb : BytesAt w A n bs) (h : z < 0 ∨ ¬ z < 0 ∧ (2016 ≤ z ∨ ¬ 2016 ≤ z ∧ (n : Int) ≤ z / 8)) :
    Calls Tryd.prog 27 #[.slice A n c, .int .i64 z] w fun e w' => e = .returned (.bool true) ∧ w = w' := by
  clear hb
  rcases h with h | ⟨h, h' | ⟨h', h''⟩⟩
  · go_enter Tryd.func27, Tryd.ntmps27
    go_wp2
    go_ret
    refine ⟨?_, rfl⟩
    simp [h]
  · go_enter Tryd.func27, Tryd.ntmps27
    go_wp2
    go_ret
    refine ⟨?_, rfl⟩
    simp [h']
  · obtain ⟨k, hk⟩ : ∃ k, z / 8 = k := ⟨_, rfl⟩
    have e4 : IntKind.i64.wrap k = k := by rw [IntKind.wrap_i64]; omega
    have e5 : z.tdiv 8 = k := by rw [Int.tdiv_eq_ediv_of_nonneg (by omega)]; exact hk
    rw [hk] at h''
    go_enter Tryd.func27, Tryd.ntmps27
    go_wp2
    go_ret
    refine ⟨?_, rfl⟩
    simp [h'']
theorem set_any (A : Option Addr) (n c : Nat) (bs : List UInt8) (z : Int) (w : World) (hb : BytesAt w A n bs) :
    Calls Tryd.prog 27 #[.slice A n c, .int .i64 z] w fun e w' => e = .returned (.bool (setZ bs z)) ∧ w = w' := by
  have hl := hb.len
  by_cases h0 : z < 0
  · rw [show setZ bs z = true by simp [setZ, h0]]
    exact set_out A n c bs z w hb (.inl h0)
  obtain ⟨i, rfl⟩ := Int.eq_ofNat_of_zero_le (show 0 ≤ z by omega)
  have e0 : setZ bs (i : Int) = setN bs i := by
    rw [setZ, show decide ((i : Int) < 0) = false by simp]; rfl
  rw [e0]
  by_cases h1 : 2016 ≤ i
  · rw [setN_far bs i h1]
    exact set_out A n c bs i w hb (.inr ⟨h0, .inl (by omega)⟩)
  by_cases h2 : n ≤ i / 8
  · rw [show setN bs i = true by simp [setN, hl, h2]]
    exact set_out A n c bs i w hb (.inr ⟨h0, .inr ⟨by omega, by omega⟩⟩)
  obtain ⟨x, hx⟩ : ∃ x, bs[i / 8]? = some x := ⟨_, List.getElem?_eq_getElem (by omega)⟩
  rw [setN_in (by omega) hx]
  exact set_in A n c bs i x w hb (by omega) hx
/-- Test's two answers. -/
def testX (bs : List UInt8) (z : Int) : Bool := if 0 ≤ z ∧ z < 2016 then setZ bs z else false
def testE (z : Int) : Int := if 0 ≤ z ∧ z < 2016 then 0 else 22
theorem test_any (A : Option Addr) (n c : Nat) (bs : List UInt8) (z : Int) (w : World) (hb : BytesAt w A n bs) :
    Calls Tryd.prog 23 #[.slice A n c, .int .i64 z] w fun e w' => e = .returned (.tuple #[.bool (testX bs z), .int .i64 (testE z)]) ∧ w = w' := by
  have HS := Lib.hid (set_any A n c bs z w hb)
  clear hb
  by_cases h0 : z < 0
  · have e1 := Lib.hid (show testX bs z = false by rw [testX, if_neg (by omega)])
    have e2 := Lib.hid (show testE z = 22 by rw [testE, if_neg (by omega)])
    go_enter Tryd.func23, Tryd.ntmps23
    go_wp2
    go_ret2
    exact ⟨by rw [e1.out, e2.out]; rfl, rfl⟩
  by_cases h1 : 2016 ≤ z
  · have e1 := Lib.hid (show testX bs z = false by rw [testX, if_neg (by omega)])
    have e2 := Lib.hid (show testE z = 22 by rw [testE, if_neg (by omega)])
    go_enter Tryd.func23, Tryd.ntmps23
    go_wp2
    go_ret2
    exact ⟨by rw [e1.out, e2.out]; rfl, rfl⟩
  · have e1 := Lib.hid (show testX bs z = setZ bs z by rw [testX, if_pos (by omega)])
    have e2 := Lib.hid (show testE z = 0 by rw [testE, if_pos (by omega)])
    go_enter Tryd.func23, Tryd.ntmps23
    go_wp2_with fail
    refine HS.out.mono ?_
    rintro e w' ⟨rfl, rfl⟩
    go_wp2_with fail
    go_ret2
    exact ⟨by rw [e1.out, e2.out]; rfl, rfl⟩
end Go.Proofs.YtcmpkcmfhfajpaaDoor.Bits

namespace Go.Proofs.YtcmpkcmfhfajpaaDoor.Bits
open Go.RowKit Go.Proofs.YtcmpkcmfhfajpaaDoor.Wire
set_option maxHeartbeats 8000000
set_option maxRecDepth 100000
set_option linter.unusedVariables false
set_option linter.unusedSimpArgs false

/-- All bits from n on are set. -/
def allSet (bs : List UInt8) (n : Nat) : Bool := (List.range 2016).all fun i => decide (i < n) || setN bs i
theorem allSet_true {bs : List UInt8} {n : Nat} (h : ∀ i, n ≤ i → i < 2016 → setN bs i = true) : allSet bs n = true := by
  unfold allSet
  rw [List.all_eq_true]
  intro i hi
  rw [List.mem_range] at hi
  by_cases h1 : i < n
  · simp [h1]
  · rw [h i (by omega) hi]; simp
theorem allSet_false {bs : List UInt8} {n i : Nat} (h1 : n ≤ i) (h2 : i < 2016) (h : setN bs i = false) : allSet bs n = false := by
  unfold allSet
  rw [List.all_eq_false]
  exact ⟨i, by rw [List.mem_range]; exact h2, by rw [h]; simp; omega⟩
theorem allSet_spec {bs : List UInt8} {n : Nat} (h : allSet bs n = true) {i : Nat} (h1 : n ≤ i) : setN bs i = true := by
  by_cases h2 : i < 2016
  · cases hs : setN bs i
    · rw [allSet_false h1 h2 hs] at h; cases h
    · rfl
  · exact setN_far bs i (by omega)
/-- Check's answer. -/
def chkE (bs : List UInt8) (n : Int) (seed : BitVec 32) : Int := if n < 0 ∨ 2016 < n then 22 else if (decide (bs.length = 256) && sealedB seed bs) = true ∧ allSet bs n.toNat = true then 0 else 117
theorem check_any (A : Option Addr) (len cap : Nat) (n : Int) (seed : BitVec 32) (bs : List UInt8) (w : World) (hl : len ≤ cap) (hcp : cap ≤ 9223372036854775807) (hb : BytesAt w A len bs) :
    Calls Tryd.prog 25 #[.slice A len cap, .int .i64 n, .int .u32 (seed.toNat : Int)] w fun e w' => e = .returned (.int .i64 (chkE bs n seed)) ∧ Below w.heap.size w w' := by
  have hlen := hb.len
  by_cases h0 : n < 0
  · have HE := Lib.hid (show chkE bs n seed = 22 by rw [chkE, if_pos (.inl h0)])
    clear hb
    go_enter Tryd.func25, Tryd.ntmps25
    go_wp2
    go_ret
    exact ⟨ret_int HE.out.symm, Below.refl _ _⟩
  by_cases h1 : 2016 < n
  · have HE := Lib.hid (show chkE bs n seed = 22 by rw [chkE, if_pos (.inr h1)])
    clear hb
    go_enter Tryd.func25, Tryd.ntmps25
    go_wp2
    go_ret
    exact ⟨ret_int HE.out.symm, Below.refl _ _⟩
  obtain ⟨m, rfl⟩ := Int.eq_ofNat_of_zero_le (show 0 ≤ n by omega)
  have hce : chkE bs (m : Int) seed = if (decide (len = 256) && sealedB seed bs) = true ∧ allSet bs m = true then 0 else 117 := by
    rw [chkE, if_neg (by omega), hlen]; rfl
  by_cases h2 : len = 256
  rotate_left
  · have HE := Lib.hid (show chkE bs m seed = 117 by rw [hce]; simp [h2])
    have hne : ((len : Int) != 256) = true := by simp; omega
    clear hb hce h2
    go_enter Tryd.func25, Tryd.ntmps25
    go_wp2
    go_ret
    exact ⟨ret_int HE.out.symm, Below.refl _ _⟩
  subst h2
  have hne : (((256 : Nat) : Int) != 256) = false := by decide
  have HS := Lib.hid (sealed_any A 256 cap seed bs w hl hcp hb)
  have HB := Lib.hid hb
  cases hs : sealedB seed bs
  · have HE := Lib.hid (show chkE bs m seed = 117 by rw [hce]; simp [hs])
    rw [hs] at HS
    clear hb hce hs
    go_enter Tryd.func25, Tryd.ntmps25
    go_wp2_with fail
    refine HS.out.mono ?_
    rintro e w1 ⟨rfl, hb1⟩
    go_wp2
    go_ret
    exact ⟨ret_int HE.out.symm, hb1⟩
  have HE := Lib.hid (show chkE bs m seed = if allSet bs m = true then 0 else 117 by rw [hce]; simp [hs])
  rw [hs] at HS
  clear hb hce hs
  go_enter Tryd.func25, Tryd.ntmps25
  go_wp2_with fail
  clear hne
  refine HS.out.mono ?_
  rintro e w1 ⟨rfl, hb1⟩
  have B1 := Lib.hid hb1
  have HB1 := Lib.hid (HB.out.below hb1)
  clear hb1 HB HS
  go_wp2_with fail
  go_loopw [7] (fun i wr => ∃ j : Nat, m ≤ j ∧ j ≤ 2016 ∧ i = .int .i64 j ∧ (∀ i, m ≤ i → i < j → setN bs i = true) ∧ wr = w1) (fun i _ => 2016 - (intOf i).toNat)
  case atStart => exact ⟨m, Nat.le_refl _, by omega, rfl, fun i _ _ => by omega, rfl⟩
  case round =>
    obtain ⟨j, hmj, hj, rfl, hall, rfl⟩ := hrel
    have X1 := Lib.hid hall
    clear hall
    by_cases hlt : j < 2016
    · have HG := Lib.hid (set_any A 256 cap bs (j : Int) wr HB1.out)
      rw [show setZ bs (j : Int) = setN bs j by rw [setZ, show decide ((j : Int) < 0) = false by simp]; rfl] at HG
      cases hs : setN bs j
      · rw [hs] at HG
        have HV := Lib.hid (show chkE bs m seed = 117 by rw [HE.out, allSet_false hmj hlt hs]; rfl)
        clear hs
        go_wp2_with fail
        refine HG.out.mono ?_
        rintro e w' ⟨rfl, rfl⟩
        go_wp2
        go_ret
        exact ⟨ret_int HV.out.symm, B1.out⟩
      · rw [hs] at HG
        have HX := Lib.hid (show ∀ i, m ≤ i → i < j + 1 → setN bs i = true from fun i h1 h2 => by
          rcases Nat.lt_or_ge i j with h | h
          · exact X1.out i h1 h
          · obtain rfl : i = j := by omega
            exact hs)
        clear hs
        go_wp2_with fail
        refine HG.out.mono ?_
        rintro e w' ⟨rfl, rfl⟩
        go_wp2
        go_roundw
        case rel => exact ⟨j + 1, by omega, by omega, by go_num, HX.out, by first | trivial | rfl⟩
        case measure => simp [intOf]; omega
    · obtain rfl : j = 2016 := by omega
      have HV := Lib.hid (show chkE bs m seed = 0 by rw [HE.out, allSet_true X1.out]; rfl)
      go_wp2
      go_ret
      exact ⟨ret_int HV.out.symm, B1.out⟩
/-- Bits set, turned, one behind the other. -/
def ons : Nat → Nat → List UInt8 → List UInt8
  | 0, _, z => z
  | m + 1, n, z => setOn (ons m n z) (n + m)
def turns : Nat → Nat → List UInt8 → List UInt8
  | 0, _, z => z
  | m + 1, n, z => turnAt (turns m n z) (n + m)
theorem ons_length : ∀ (m n : Nat) (z : List UInt8), (ons m n z).length = z.length
  | 0, _, _ => rfl
  | m + 1, n, z => by rw [ons, setOn_length, ons_length]
theorem turns_length : ∀ (m n : Nat) (z : List UInt8), (turns m n z).length = z.length
  | 0, _, _ => rfl
  | m + 1, n, z => by rw [turns, turnAt_length, turns_length]
theorem own_set8 {w : World} {base g cap n : Nat} {t : TypeId} {bs : List UInt8} (h : w.ownsRow base t 1 (.slice (some ⟨g, 0, none⟩) n cap) n (bvl bs)) (j : Nat) (y : UInt8) :
    (w.setCell ⟨g, j, none⟩ (.int .u8 (y.toNat : Int))).ownsRow base t 1 (.slice (some ⟨g, 0, none⟩) n cap) n (bvl (bs.set j y)) := by
  have := h.stored j (bval y)
  rw [bvl, List.map_set]
  exact this.1
theorem sealB_len8 (seed : BitVec 32) (bs : List UInt8) : (sealB seed bs).length = bs.length := by
  unfold sealB
  split
  · rw [List.length_append, List.length_take, le_length]; omega
  · rfl
def newL (n : Nat) : List UInt8 := ons (2016 - n) n (List.replicate 256 0)
theorem newL_length (n : Nat) : (newL n).length = 256 := by rw [newL, ons_length]; exact List.length_replicate
def newB (n : Int) (seed : BitVec 32) : List UInt8 := if n < 0 ∨ 2016 < n then [] else sealB seed (newL n.toNat)
def newE (n : Int) : Int := if n < 0 ∨ 2016 < n then 22 else 0
theorem new_any (n : Int) (seed : BitVec 32) (w : World) :
    Calls Tryd.prog 17 #[.int .i64 n, .int .u32 (seed.toNat : Int)] w fun e w' => ∃ v, e = .returned (.tuple #[v, .int .i64 (newE n)]) ∧ Below w.heap.size w w' ∧ w'.ownsRow w.heap.size 5 1 v (newB n seed).length (bvl (newB n seed)) := by
  by_cases h0 : n < 0
  · have HE := Lib.hid (show newE n = 22 by rw [newE, if_pos (.inl h0)])
    have HB := Lib.hid (show newB n seed = [] by rw [newB, if_pos (.inl h0)])
    go_enter Tryd.func17, Tryd.ntmps17
    go_wp2
    go_ret2
    exact ⟨_, by rw [HE.out]; rfl, Below.refl _ _, by rw [HB.out]; exact World.ownsRow_nil _ _ _ _⟩
  by_cases h1 : 2016 < n
  · have HE := Lib.hid (show newE n = 22 by rw [newE, if_pos (.inr h1)])
    have HB := Lib.hid (show newB n seed = [] by rw [newB, if_pos (.inr h1)])
    go_enter Tryd.func17, Tryd.ntmps17
    go_wp2
    go_ret2
    exact ⟨_, by rw [HE.out]; rfl, Below.refl _ _, by rw [HB.out]; exact World.ownsRow_nil _ _ _ _⟩
  obtain ⟨m, rfl⟩ := Int.eq_ofNat_of_zero_le (show 0 ≤ n by omega)
  have hm : m ≤ 2016 := by omega
  have HE := Lib.hid (show newE (m : Int) = 0 by rw [newE, if_neg (by omega)])
  have HNB := Lib.hid (show newB (m : Int) seed = sealB seed (newL m) by rw [newB, if_neg (by omega)]; rfl)
  have hmk := make_bytes 256 (by omega)
  rw [show ((256 : Nat) : Int) = 256 from rfl] at hmk
  obtain ⟨Z, hZ⟩ : ∃ Z : List UInt8, List.replicate 256 0 = Z := ⟨_, rfl⟩
  have hZl : Z.length = 256 := by rw [← hZ]; exact List.length_replicate
  have hro : roomOf [] 256 = (bvl Z).toArray := by rw [← hZ]; rfl
  rw [hro] at hmk
  have HZ := Lib.hid hZ
  have HZL := Lib.hid hZl
  have hnl : newL m = ons (2016 - m) m Z := by rw [newL, hZ]
  have HNL := Lib.hid hnl
  have O1 := Lib.hid (show (w.alloc (.cells (bvl Z).toArray 5)).ownsRow w.heap.size 5 1 (.slice (some ⟨w.heap.size, 0, none⟩) 256 256) 256 (bvl Z) by
    have := World.ownsRow_lit (base := w.heap.size) (e := 5) (size := 1) w (bvl Z).toArray 256 (Nat.le_refl _) (by unfold maxLen; omega) (by simp [bvl]; omega)
    simpa using this)
  have B1 := Lib.hid ((Below.refl w.heap.size w).alloc (Nat.le_refl _) (.cells (bvl Z).toArray 5))
  clear hZ hZl hro hnl
  go_enter Tryd.func17, Tryd.ntmps17
  go_wp2_with fail
  clear hmk
  go_loopw [7] (fun i wr => ∃ j : Nat, m ≤ j ∧ j ≤ 2016 ∧ i = .int .i64 j ∧ wr.ownsRow w.heap.size 5 1 (.slice (some ⟨w.heap.size, 0, none⟩) 256 256) 256 (bvl (ons (j - m) m Z)) ∧ Below w.heap.size w wr) (fun i _ => 2016 - (intOf i).toNat)
  case atStart => exact ⟨m, Nat.le_refl _, hm, rfl, by rw [Nat.sub_self]; exact O1.out, B1.out⟩
  case round =>
    obtain ⟨j, hmj, hj, rfl, ho, hbel⟩ := hrel
    have O4 := Lib.hid ho
    have B4 := Lib.hid hbel
    obtain ⟨zs, hzs⟩ : ∃ zs, ons (j - m) m Z = zs := ⟨_, rfl⟩
    have hzl : zs.length = 256 := by rw [← hzs, ons_length]; exact HZL.out
    rw [hzs] at O4
    have HZS := Lib.hid hzs
    clear ho hbel hzs
    by_cases hlt : j < 2016
    · have HNX := Lib.hid (show ons (j + 1 - m) m Z = setOn zs j by rw [show j + 1 - m = (j - m) + 1 by omega, ons, HZS.out, show m + (j - m) = j by omega])
      obtain ⟨x, hx⟩ : ∃ x, zs[j / 8]? = some x := ⟨_, List.getElem?_eq_getElem (by omega)⟩
      have hcx2 : wr.drew.cell? ⟨w.heap.size, j / 8, none⟩ = some (.int .u8 (x.toNat : Int)) := by
        show wr.cell? ⟨w.heap.size, j / 8, none⟩ = _
        rw [O4.out.cellAt (j / 8) (by omega), bvl_get, hx]; rfl
      have hfx2 : wr.drew.frozen? ⟨w.heap.size, j / 8, none⟩ = false := O4.out.frozenAt (j / 8)
      have hset : setOn zs j = zs.set (j / 8) (orB x (j % 8)) := by rw [setOn, List.getD_eq_getElem?_getD, hx]; rfl
      have HSET := Lib.hid hset
      have g1 : (j : Int) / 8 = ((j / 8 : Nat) : Int) := by omega
      have g2 : (j : Int) % 8 = ((j % 8 : Nat) : Int) := by omega
      have g2' : (j : Int).tmod 8 = ((j % 8 : Nat) : Int) := by rw [Int.tmod_eq_emod_of_nonneg (by omega)]; omega
      have g3 : ((j / 8 : Nat) : Int) < 256 := by omega
      have g4 : j / 8 < 256 := by omega
      have g7 : ¬ ((j % 8 : Nat) : Int) < 0 := by omega
      have g8 : (0 : Int) ≤ ((j % 8 : Nat) : Int) := by omega
      have g5 : IntKind.i64.wrap ((j / 8 : Nat) : Int) = ((j / 8 : Nat) : Int) := by rw [IntKind.wrap_i64]; omega
      have g6 : (0 : Int) ≤ ((j / 8 : Nat) : Int) := by omega
      have hr8 : j % 8 < 8 := Nat.mod_lt _ (by omega)
      have HY := Lib.hid (or_bit x (j % 8) hr8)
      have O5 := Lib.hid (show wr.drew.ownsRow w.heap.size 5 1 (.slice (some ⟨w.heap.size, 0, none⟩) 256 256) 256 (bvl zs) from O4.out)
      have B5 := Lib.hid (show Below w.heap.size w wr.drew from below_drewN B4.out 1)
      generalize j / 8 = q at *
      generalize j % 8 = r at *
      generalize orB x r = y at *
      have O6 := Lib.hid (own_set8 O5.out q y)
      have B6 := Lib.hid (B5.out.setCell (p := ⟨w.heap.size, q, none⟩) (Nat.le_refl _) (.int .u8 (y.toNat : Int)))
      clear hx hset O4 B4 O5 B5
      go_wp2_with fail
      go_still_tail 10, (by kernel_rfl)
      change wpList _ _ _ _ _ wr.drew
      generalize wr.drew = w5 at *
      go_wp2_with (simp only [HY.out])
      go_roundw
      case rel => exact ⟨j + 1, by omega, by omega, by go_num, by rw [HNX.out, HSET.out]; exact O6.out, B6.out⟩
      case measure => simp [intOf]; omega
    · obtain rfl : j = 2016 := by omega
      have HS := Lib.hid (seal_row w.heap.size w.heap.size 256 256 256 zs [] seed wr hzl (Nat.le_refl _) (by rw [List.append_nil]; exact O4.out))
      go_wp2_with fail
      refine HS.out.mono ?_
      rintro e w2 ⟨rfl, ho2, hg2⟩
      rw [List.append_nil] at ho2
      have O2 := Lib.hid ho2
      have B2 := Lib.hid (below_own O4.out B4.out (Nat.le_refl _) hg2)
      have hse : sealE 256 = 0 := by decide
      clear ho2 hg2
      go_wp2_with fail
      go_ret2
      refine ⟨_, by rw [HE.out]; rfl, B2.out, ?_⟩
      rw [HNB.out, HNL.out, HZS.out, sealB_len8, hzl]
      exact O2.out
end Go.Proofs.YtcmpkcmfhfajpaaDoor.Bits

namespace Go.Proofs.YtcmpkcmfhfajpaaDoor.Bits
open Go.RowKit Go.Proofs.YtcmpkcmfhfajpaaDoor.Wire
set_option maxHeartbeats 8000000
set_option maxRecDepth 100000
set_option linter.unusedVariables false
set_option linter.unusedSimpArgs false

theorem own_monoB {w : World} {base base' size : Nat} {t : TypeId} {v : Value} {n : Nat} {xs : List Value} (h : w.ownsRow base t size v n xs) (hb : base' ≤ base) : w.ownsRow base' t size v n xs :=
  ⟨h.1, h.2.imp id fun ⟨g, cap, cur, h1, h2, h3⟩ => ⟨g, cap, cur, h1, Nat.le_trans hb h2, h3⟩⟩
theorem bitB_turns (bs : List UInt8) (f : Nat) : ∀ (m i : Nat), f + m ≤ 8 * bs.length → bitB (turns m f bs) i = (bitB bs i ^^ decide (f ≤ i ∧ i < f + m))
  | 0, i, _ => by
    have : ¬ (f ≤ i ∧ i < f + 0) := by omega
    rw [turns, decide_eq_false this, Bool.xor_false]
  | m + 1, i, h => by
    rw [turns, bitB_turnAt _ _ _ (by rw [turns_length]; omega), bitB_turns bs f m i (by omega)]
    by_cases h1 : i = f + m
    · have e1 : ¬ (f ≤ i ∧ i < f + m) := by omega
      have e2 : f ≤ i ∧ i < f + (m + 1) := by omega
      simp [h1]
    · have e1 : (i == f + m) = false := by simpa using h1
      have e2 : (f ≤ i ∧ i < f + (m + 1)) ↔ (f ≤ i ∧ i < f + m) := by omega
      rw [e1, Bool.xor_false, decide_eq_decide.2 e2]
def turnHit (bs : List UInt8) (f c : Nat) (on : Bool) : Bool := (List.range c).any fun i => setN bs (f + i) == on
def turnBad (n f c : Int) : Bool := decide (c < 1) || (decide (f < 0) || (decide (n < f) || decide (n - f < c)))
def turnE (bs : List UInt8) (n f c : Int) (on : Bool) (seed : BitVec 32) : Int :=
  if chkE bs n seed ≠ 0 then chkE bs n seed else if turnBad n f c = true then 22 else if turnHit bs f.toNat c.toNat on = true then 117 else 0
def turnB (bs : List UInt8) (n f c : Int) (on : Bool) (seed : BitVec 32) : List UInt8 := if turnE bs n f c on seed = 0 then sealB seed (turns c.toNat f.toNat bs) else []
theorem chkE_zero {bs : List UInt8} {n : Int} {seed : BitVec 32} (h : chkE bs n seed = 0) : 0 ≤ n ∧ n ≤ 2016 ∧ bs.length = 256 ∧ sealedB seed bs = true ∧ allSet bs n.toNat = true := by
  unfold chkE at h
  split at h
  · cases h
  · split at h
    · rename_i h1 h2
      simp only [Bool.and_eq_true, decide_eq_true_eq] at h2
      exact ⟨by omega, by omega, h2.1.1, h2.1.2, h2.2⟩
    · cases h
theorem turn_any (A : Option Addr) (len cap : Nat) (n f c : Int) (on : Bool) (seed : BitVec 32) (bs : List UInt8) (w : World) (hl : len ≤ cap) (hcp : cap ≤ 9223372036854775807) (hA : A = none → len = 0 ∧ cap = 0) (hb : BytesAt w A len bs) :
    Calls Tryd.prog 18 #[.slice A len cap, .int .i64 n, .int .i64 f, .int .i64 c, .bool on, .int .u32 (seed.toNat : Int)] w fun e w' => ∃ v, e = .returned (.tuple #[v, .int .i64 (turnE bs n f c on seed)]) ∧ Below w.heap.size w w' ∧ w'.ownsRow w.heap.size 5 1 v (turnB bs n f c on seed).length (bvl (turnB bs n f c on seed)) := by
  have hlen := hb.len
  have HC := Lib.hid (check_any A len cap n seed bs w hl hcp hb)
  have none_ : turnE bs n f c on seed ≠ 0 → turnB bs n f c on seed = [] := fun h => by rw [turnB, if_neg h]
  by_cases hck : chkE bs n seed = 0
  rotate_left
  · have he : turnE bs n f c on seed = chkE bs n seed := by rw [turnE, if_pos hck]
    have HE := Lib.hid he
    have HB := Lib.hid (none_ (by rw [he]; exact hck))
    have hne : (chkE bs n seed != 0) = true := by simpa using hck
    generalize chkE bs n seed = ce at *
    clear none_ hb hlen he hck
    go_enter Tryd.func18, Tryd.ntmps18
    go_wp2_with fail
    refine HC.out.mono ?_
    rintro e w1 ⟨rfl, hb1⟩
    go_wp2
    go_ret2
    exact ⟨_, by rw [HE.out]; rfl, hb1, by rw [HB.out]; exact World.ownsRow_nil _ _ _ _⟩
  obtain ⟨n0, n1, h256, hsl, has⟩ := chkE_zero hck
  rw [hck] at HC
  cases hbad : turnBad n f c
  rotate_left
  · have he : turnE bs n f c on seed = 22 := by rw [turnE, if_neg (by rw [hck]; simp), if_pos hbad]
    have HE := Lib.hid he
    have HB := Lib.hid (none_ (by rw [he]; decide))
    have h : c < 1 ∨ ¬ c < 1 ∧ (f < 0 ∨ ¬ f < 0 ∧ (n < f ∨ ¬ n < f ∧ n - f < c)) := by
      simp only [turnBad, Bool.or_eq_true, decide_eq_true_eq] at hbad
      omega
    clear none_ hb hlen he hck hbad
    rcases h with h | ⟨h, h' | ⟨h', h'' | ⟨h'', h3⟩⟩⟩
    rotate_right
    · have wr : IntKind.i64.wrap (n - f) = n - f := by rw [IntKind.wrap_i64]; omega
      go_enter Tryd.func18, Tryd.ntmps18
      go_wp2_with fail
      refine HC.out.mono ?_
      rintro e w1 ⟨rfl, hb1⟩
      go_wp2
      go_ret2
      exact ⟨_, by rw [HE.out]; rfl, hb1, by rw [HB.out]; exact World.ownsRow_nil _ _ _ _⟩
    all_goals
      go_enter Tryd.func18, Tryd.ntmps18
      go_wp2_with fail
      refine HC.out.mono ?_
      rintro e w1 ⟨rfl, hb1⟩
      go_wp2
      go_ret2
      exact ⟨_, by rw [HE.out]; rfl, hb1, by rw [HB.out]; exact World.ownsRow_nil _ _ _ _⟩
  have hgood : ¬ c < 1 ∧ ¬ f < 0 ∧ ¬ n < f ∧ ¬ n - f < c := by
    simp only [turnBad, Bool.or_eq_false_iff, decide_eq_false_iff_not] at hbad
    exact hbad
  obtain ⟨h1, h2, h3, h4⟩ := hgood
  obtain ⟨p, rfl⟩ := Int.eq_ofNat_of_zero_le (show 0 ≤ f by omega)
  obtain ⟨m, rfl⟩ := Int.eq_ofNat_of_zero_le (show 0 ≤ c by omega)
  have hpm : p + m ≤ 2016 := by omega
  have he : turnE bs n (p : Int) (m : Int) on seed = if turnHit bs p m on = true then 117 else 0 := by
    rw [turnE, if_neg (by rw [hck]; simp), if_neg (by rw [hbad]; simp)]; rfl
  have HE := Lib.hid he
  have HN := Lib.hid none_
  have HTB := Lib.hid (show turnE bs n (p : Int) (m : Int) on seed = 0 → turnB bs n (p : Int) (m : Int) on seed = sealB seed (turns m p bs) from fun h => by rw [turnB, if_pos h]; rfl)
  have w1' : IntKind.i64.wrap (n - (p : Int)) = n - (p : Int) := by rw [IntKind.wrap_i64]; omega
  have w2' : IntKind.i64.wrap ((p : Int) + (m : Int)) = ((p + m : Nat) : Int) := by rw [IntKind.wrap_i64]; omega
  have HB := Lib.hid hb
  have H256 := Lib.hid h256
  have HA := Lib.hid hA
  obtain rfl : len = 256 := by omega
  clear none_ hb hlen he hck hbad hsl has h256 hA
  go_enter Tryd.func18, Tryd.ntmps18
  go_wp2_with fail
  refine HC.out.mono ?_
  rintro e w1 ⟨rfl, hb1⟩
  have B1 := Lib.hid hb1
  have HB1 := Lib.hid (HB.out.below hb1)
  clear hb1 HC
  go_wp2_with fail
  refine (clone_any A 256 cap bs w1 (by omega) HA.out HB1.out).mono ?_
  rintro e w2 ⟨v2, rfl, hb2, ho2⟩
  have hz1 := B1.out.size
  obtain ⟨g, c2, cs2, rfl, hg2, _, hc2, hm2, _⟩ := own_form ho2 (by omega)
  have O2 := Lib.hid ho2
  have B2 := Lib.hid (below_all B1.out B1.out.size hb2)
  have hgw : w.heap.size ≤ g := Nat.le_trans hz1 hg2
  clear hb2 ho2 w1'
  go_wp2_with fail
  go_loopw [16] (fun i wr => ∃ j : Nat, p ≤ j ∧ j ≤ p + m ∧ i = .int .i64 j ∧ (∀ i, p ≤ i → i < j → setN bs i = !on) ∧ wr.ownsRow w1.heap.size 5 1 (.slice (some ⟨g, 0, none⟩) 256 c2) 256 (bvl (turns (j - p) p bs)) ∧ Below w.heap.size w wr) (fun i _ => p + m - (intOf i).toNat)
  case atStart => exact ⟨p, Nat.le_refl _, by omega, rfl, fun i _ _ => by omega, by rw [Nat.sub_self]; exact O2.out, B2.out⟩
  case round =>
    obtain ⟨j, hpj, hj, rfl, hall, ho, hbel⟩ := hrel
    have O4 := Lib.hid ho
    have B4 := Lib.hid hbel
    have X1 := Lib.hid hall
    obtain ⟨zs, hzs⟩ : ∃ zs, turns (j - p) p bs = zs := ⟨_, rfl⟩
    have hzl : zs.length = 256 := by rw [← hzs, turns_length]; exact H256.out
    rw [hzs] at O4
    have HZS := Lib.hid hzs
    have HBT := Lib.hid (show ∀ i, bitB zs i = (bitB bs i ^^ decide (p ≤ i ∧ i < p + (j - p))) from fun i => by rw [← hzs]; exact bitB_turns bs p (j - p) i (by rw [H256.out]; omega))
    clear ho hbel hzs hall
    by_cases hlt : j < p + m
    · have HNX := Lib.hid (show turns (j + 1 - p) p bs = turnAt zs j by rw [show j + 1 - p = (j - p) + 1 by omega, turns, HZS.out, show p + (j - p) = j by omega])
      have hsame : setN zs j = setN bs j := by
        have e1 : ¬ (p ≤ j ∧ j < p + (j - p)) := by omega
        rw [setN, setN, hzl, H256.out, HBT.out, decide_eq_false e1, Bool.xor_false]
      have HSE := Lib.hid (set_any (some ⟨g, 0, none⟩) 256 c2 zs (j : Int) wr (BytesAt.of_own O4.out))
      rw [show setZ zs (j : Int) = setN zs j by rw [setZ, show decide ((j : Int) < 0) = false by simp]; rfl, hsame] at HSE
      have hjl : (j : Int) < ((p + m : Nat) : Int) := by omega
      clear hsame
      by_cases hs : setN bs j = on
      · have hhit : turnHit bs p m on = true := by
          unfold turnHit
          rw [List.any_eq_true]
          exact ⟨j - p, by rw [List.mem_range]; omega, by rw [show p + (j - p) = j by omega, hs]; simp⟩
        have HV := Lib.hid (show turnE bs n (p : Int) (m : Int) on seed = 117 by rw [HE.out, hhit]; rfl)
        have HBB := Lib.hid (HN.out (by rw [HV.out]; decide))
        rw [hs] at HSE
        clear hs hhit
        have hoo : (on == on) = true := by simp
        go_wp2_with fail
        refine HSE.out.mono ?_
        rintro e w' ⟨rfl, rfl⟩
        go_wp2
        go_ret2
        exact ⟨_, by rw [HV.out]; rfl, B4.out, by rw [HBB.out]; exact World.ownsRow_nil _ _ _ _⟩
      · have hs' : setN bs j = !on := by cases on <;> cases h : setN bs j <;> simp_all
        rw [hs'] at HSE
        have HX := Lib.hid (show ∀ i, p ≤ i → i < j + 1 → setN bs i = !on from fun i h1 h2 => by
          rcases Nat.lt_or_ge i j with h | h
          · exact X1.out i h1 h
          · obtain rfl : i = j := by omega
            exact hs')
        have hoo : ((!on) == on) = false := by cases on <;> rfl
        clear hs hs'
        obtain ⟨x, hx⟩ : ∃ x, zs[j / 8]? = some x := ⟨_, List.getElem?_eq_getElem (by omega)⟩
        have hcx2 : wr.drew.cell? ⟨g, j / 8, none⟩ = some (.int .u8 (x.toNat : Int)) := by
          show wr.cell? ⟨g, j / 8, none⟩ = _
          rw [O4.out.cellAt (j / 8) (by omega), bvl_get, hx]; rfl
        have hfx2 : wr.drew.frozen? ⟨g, j / 8, none⟩ = false := O4.out.frozenAt (j / 8)
        have hset : turnAt zs j = zs.set (j / 8) (xorB x (j % 8)) := by rw [turnAt, List.getD_eq_getElem?_getD, hx]; rfl
        have HSET := Lib.hid hset
        have g1 : (j : Int) / 8 = ((j / 8 : Nat) : Int) := by omega
        have g2 : (j : Int) % 8 = ((j % 8 : Nat) : Int) := by omega
        have g2' : (j : Int).tmod 8 = ((j % 8 : Nat) : Int) := by rw [Int.tmod_eq_emod_of_nonneg (by omega)]; omega
        have g3 : ((j / 8 : Nat) : Int) < 256 := by omega
        have g4 : j / 8 < 256 := by omega
        have g7 : ¬ ((j % 8 : Nat) : Int) < 0 := by omega
        have g8 : (0 : Int) ≤ ((j % 8 : Nat) : Int) := by omega
        have g5 : IntKind.i64.wrap ((j / 8 : Nat) : Int) = ((j / 8 : Nat) : Int) := by rw [IntKind.wrap_i64]; omega
        have g6 : (0 : Int) ≤ ((j / 8 : Nat) : Int) := by omega
        have hr8 : j % 8 < 8 := Nat.mod_lt _ (by omega)
        have HY := Lib.hid (xor_bit x (j % 8) hr8)
        have O5 := Lib.hid (show wr.drew.ownsRow w1.heap.size 5 1 (.slice (some ⟨g, 0, none⟩) 256 c2) 256 (bvl zs) from O4.out)
        have B5 := Lib.hid (show Below w.heap.size w wr.drew from below_drewN B4.out 1)
        generalize j / 8 = q at *
        generalize j % 8 = r at *
        generalize xorB x r = y at *
        have O6 := Lib.hid (own_set8 O5.out q y)
        have B6 := Lib.hid (B5.out.setCell (p := ⟨g, q, none⟩) hgw (.int .u8 (y.toNat : Int)))
        clear hx hset O4 B4 O5 B5
        go_wp2_with fail
        refine HSE.out.mono ?_
        rintro e w' ⟨rfl, rfl⟩
        go_wp2_with fail
        go_still_tail 10, (by kernel_rfl)
        change wpList _ _ _ _ _ wr.drew
        generalize wr.drew = w5 at *
        go_wp2_with (simp only [HY.out])
        go_roundw
        case rel => exact ⟨j + 1, by omega, by omega, by go_num, HX.out, by rw [HNX.out, HSET.out]; exact O6.out, B6.out⟩
        case measure => simp [intOf]; omega
    · obtain rfl : j = p + m := by omega
      have hhit : turnHit bs p m on = false := by
        unfold turnHit
        rw [List.any_eq_false]
        intro i hi
        rw [List.mem_range] at hi
        rw [X1.out (p + i) (by omega) (by omega)]
        cases on <;> simp
      have HV := Lib.hid (show turnE bs n (p : Int) (m : Int) on seed = 0 by rw [HE.out, hhit]; rfl)
      have HBB := Lib.hid (HTB.out HV.out)
      have HS := Lib.hid (seal_row w1.heap.size g 256 c2 256 zs [] seed wr hzl (Nat.le_refl _) (by rw [List.append_nil]; exact O4.out))
      clear hhit
      go_wp2_with fail
      refine HS.out.mono ?_
      rintro e w3 ⟨rfl, ho3, hg3⟩
      rw [List.append_nil] at ho3
      have O3 := Lib.hid (own_monoB ho3 hz1)
      have B3 := Lib.hid (below_own O4.out B4.out hz1 hg3)
      have hse : sealE 256 = 0 := by decide
      clear ho3 hg3
      go_wp2_with fail
      go_ret2
      refine ⟨_, by rw [HV.out]; rfl, B3.out, ?_⟩
      rw [HBB.out, ← show turns (p + m - p) p bs = turns m p bs by rw [Nat.add_sub_cancel_left], HZS.out, sealB_len8, hzl]
      exact O3.out
end Go.Proofs.YtcmpkcmfhfajpaaDoor.Bits

namespace Go.Proofs.YtcmpkcmfhfajpaaDoor.Bits
open Go.RowKit Go.Proofs.YtcmpkcmfhfajpaaDoor.Wire
set_option maxHeartbeats 8000000
set_option maxRecDepth 100000
set_option linter.unusedVariables false
set_option linter.unusedSimpArgs false

/-- The library's table, as its initialiser lays it. -/
def Tab (w : World) : Prop := ∀ j, j < 64 → w.cell? ⟨1, j, none⟩ = some (.int .u8 (Lib.deBruijn64tab.getD j 0)) ∧ 1 < w.heap.size
theorem Tab.below {w w' : World} (h : Tab w) (hb : Below w.heap.size w w') : Tab w' := fun j hj => ⟨(hb.cell (p := ⟨1, j, none⟩) (h j hj).2).trans (h j hj).1, Nat.lt_of_lt_of_le (h j hj).2 hb.size⟩
theorem pop_wrap (x : Int) (h0 : 0 ≤ x) (h1 : x ≤ 255) : wrap64 (Lib.pop8 x) = (Lib.onesCount x.toNat : Int) := by unfold wrap64; exact Lib.pop8_int x h0 h1
theorem len_wrap (x : Int) (h0 : 0 ≤ x) (h1 : x ≤ 255) : wrap64 (Lib.len8 x) = (Lib.bitLen x.toNat : Int) := by unfold wrap64; exact Lib.len8_int x h0 h1
theorem ones_any (x : Int) (w : World) (h0 : 0 ≤ x) (h1 : x ≤ 255) :
    Calls Tryd.prog 32 #[.int .u8 x] w fun e w' => e = .returned (.int .i64 (Lib.onesCount x.toNat)) ∧ w = w' := by
  have HP := Lib.hid (pop_wrap x h0 h1)
  go_enter Tryd.func32, Tryd.ntmps32
  go_wp2
  go_ret
  exact ⟨ret_int HP.out, rfl⟩
theorem len64_any (x : Int) (w : World) (h0 : 0 ≤ x) (h1 : x ≤ 65535) :
    Calls Tryd.prog 41 #[.int .u64 x] w fun e w' => e = .returned (.int .i64 (Lib.bitLen x.toNat)) ∧ w = w' := by
  by_cases h : x ≤ 255
  · have HP := Lib.hid (len_wrap x h0 h)
    go_enter Tryd.func41, Tryd.ntmps41
    go_wp2
    go_ret
    refine ⟨ret_int ?_, rfl⟩
    have l := Lib.bitLen_le8' x h0 h
    have := HP.out
    rw [this]; unfold wrap64; omega
  · have HP := Lib.hid (len_wrap (x / 256) (by omega) (by omega))
    have hx : x / 256 ≤ 255 := by omega
    have hx0 : 0 ≤ x / 256 := by omega
    go_enter Tryd.func41, Tryd.ntmps41
    go_wp2
    go_ret
    refine ⟨ret_int ?_, rfl⟩
    have l := Lib.bitLen_le8' (x / 256) hx0 hx
    have sh := Lib.bitLen_shift8 x.toNat (by omega) (by omega)
    rw [show x.toNat / 256 = (x / 256).toNat by omega] at sh
    rw [HP.out, sh]; unfold wrap64; omega
theorem len_any (x : Int) (w : World) (h0 : 0 ≤ x) (h1 : x ≤ 65535) :
    Calls Tryd.prog 29 #[.int .u64 x] w fun e w' => e = .returned (.int .i64 (Lib.bitLen x.toNat)) ∧ w = w' := by
  have HL := Lib.hid (len64_any x w h0 h1)
  go_enter Tryd.func29, Tryd.ntmps29
  go_wp2_with fail
  refine HL.out.mono ?_
  rintro e w' ⟨rfl, rfl⟩
  go_wp2_with fail
  go_ret
  exact ⟨rfl, rfl⟩
theorem tz_key (x a : Nat) (hx : x < 18446744073709551616) (hx0 : x ≠ 0) (hlow : x &&& (18446744073709551616 - x) = a) :
    IntKind.u64.wrap (bits BinOp.and IntKind.u64 (x : Int) (IntKind.u64.wrap (-(x : Int))) * 285870213051353865) / 288230376151711744 = ((a * 285870213051353865 % 18446744073709551616 / 288230376151711744 : Nat) : Int) := by
  have e1 : IntKind.u64.wrap (-(x : Int)) = ((18446744073709551616 - x : Nat) : Int) := by rw [IntKind.wrap_u64]; omega
  rw [e1, bits_and_u64_nat x _ hx (by omega), hlow, IntKind.wrap_u64]
  omega
theorem tz64_core (x k idx : Nat) (w : World) (hx0 : ((x : Int) == 0) = false)
    (key : IntKind.u64.wrap (bits BinOp.and IntKind.u64 (x : Int) (IntKind.u64.wrap (-(x : Int))) * 285870213051353865) / 288230376151711744 = (idx : Int))
    (hi : idx < 64) (hk : k < 64) (hcell : w.cell? ⟨1, idx, none⟩ = some (.int .u8 k)) :
    Calls Tryd.prog 59 #[.int .u64 x] w fun e w' => e = .returned (.int .i64 k) ∧ w = w' := by
  go_enter Tryd.func59, Tryd.ntmps59
  go_wp2_with (simp only [key])
  go_ret
  exact ⟨rfl, rfl⟩
theorem tz64_any (x : Nat) (hx : x < 18446744073709551616) (h0 : x ≠ 0) (w : World) (hT : Tab w) :
    Calls Tryd.prog 59 #[.int .u64 x] w fun e w' => e = .returned (.int .i64 (Lib.ctz 64 x)) ∧ w = w' := by
  obtain ⟨hlow, hk⟩ := Lib.lowest_bit 64 x h0 hx
  obtain ⟨hi, htab⟩ := Lib.deBruijn64_at _ hk
  have hcell := (hT _ hi).1
  rw [htab] at hcell
  exact tz64_core x _ _ w (by simp; omega) (tz_key x _ hx h0 hlow) hi hk hcell
theorem trail_any (x : Nat) (hx : x < 18446744073709551616) (h0 : x ≠ 0) (w : World) (hT : Tab w) :
    Calls Tryd.prog 52 #[.int .u64 x] w fun e w' => e = .returned (.int .i64 (Lib.ctz 64 x)) ∧ w = w' := by
  have HL := Lib.hid (tz64_any x hx h0 w hT)
  go_enter Tryd.func52, Tryd.ntmps52
  go_wp2_with fail
  refine HL.out.mono ?_
  rintro e w' ⟨rfl, rfl⟩
  go_wp2_with fail
  go_ret
  exact ⟨rfl, rfl⟩
/-- The library's count, to ten, is mine. -/
theorem ctz_tz : ∀ (n f x : Nat), n ≤ f → 0 < x → min n (Lib.ctzFrom f x) = tz n x
  | 0, f, x, _, _ => by simp [tz]
  | n + 1, 0, x, h, _ => by omega
  | n + 1, f + 1, x, h, h0 => by
    simp only [Lib.ctzFrom, tz]
    by_cases h1 : x % 2 = 1
    · rw [if_pos h1, if_neg (by omega)]; simp
    · have h2 : x % 2 = 0 := by omega
      rw [if_neg h1, if_pos h2]
      have := ctz_tz n f (x / 2) (by omega) (by omega)
      omega
theorem ctz_ten (x : Nat) (h : 0 < x) : min (10 : Int) (Lib.ctz 64 x : Int) = (tz 10 x : Int) := by
  have := ctz_tz 10 64 x (by omega) h
  have e : Lib.ctz 64 x = Lib.ctzFrom 64 x := by simp [Lib.ctz]; omega
  rw [e]; omega
/-! ### Zeros -/
theorem ones_bits_f : ∀ x : Fin 256, (Lib.onesCount x.val : Nat) = ((List.range 8).filter fun r => x.val.testBit r).length := by decide +kernel
theorem ones_le_f : ∀ x : Fin 256, Lib.onesCount x.val ≤ 8 := by decide +kernel
/-- How many bits of the first bytes are free. -/
def zb : List UInt8 → Int
  | [] => 0
  | x :: l => (8 - (Lib.onesCount x.toNat : Int)) + zb l
def zerosZ (bs : List UInt8) : Int := zb (bs.take 252)
theorem zb_snoc (l : List UInt8) (x : UInt8) : zb (l ++ [x]) = zb l + (8 - (Lib.onesCount x.toNat : Int)) := by
  induction l with
  | nil => simp [zb]
  | cons y l ih => simp only [List.cons_append, zb, ih]; omega
theorem zb_bound (l : List UInt8) : 0 ≤ zb l ∧ zb l ≤ 8 * l.length := by
  induction l with
  | nil => simp [zb]
  | cons y l ih =>
    have := ones_le_f ⟨y.toNat, y.toNat_lt⟩
    simp only [zb, List.length_cons] at this ⊢
    omega
theorem zeros_any (A : Option Addr) (n c : Nat) (bs : List UInt8) (w : World) (hnc : n ≤ c) (hc : c ≤ 9223372036854775807) (hA : A = none → n = 0 ∧ c = 0) (hb : BytesAt w A n bs) :
    Calls Tryd.prog 13 #[.slice A n c] w fun e w' => e = .returned (.int .i64 (zerosZ bs)) ∧ w = w' := by
  have hl := hb.len
  cases A with
  | none =>
    obtain ⟨rfl, rfl⟩ := hA rfl
    obtain rfl : bs = [] := List.eq_nil_of_length_eq_zero hl
    clear hb hA
    have hz : zerosZ [] = 0 := rfl
    have HZ := Lib.hid hz
    go_enter Tryd.func13, Tryd.ntmps13
    go_wp2_with fail
    go_loopw [3, 5, 12] (fun v _ i wr => v = .int .i64 0 ∧ i = .int .i64 0 ∧ wr = w) (fun _ _ i _ => 0)
    case atStart => exact ⟨rfl, rfl, rfl⟩
    case round =>
      obtain ⟨rfl, rfl, rfl⟩ := hrel
      go_wp2
      go_ret
      exact ⟨ret_int HZ.out.symm, rfl⟩
  | some a =>
    obtain ⟨m, hm⟩ : ∃ m, min n 252 = m := ⟨_, rfl⟩
    have hmi : min (n : Int) 252 = (m : Int) := by omega
    have hB2 := hb.take_ m (by omega)
    have hzz : zerosZ bs = zb (bs.take m) := by
      unfold zerosZ
      rcases Nat.le_total n 252 with h | h
      · rw [show m = n by omega, List.take_of_length_le (by omega), List.take_of_length_le (by omega)]
      · rw [show m = 252 by omega]
    have HZ := Lib.hid hzz
    have HB := Lib.hid hB2
    have hm0 : (0 : Int) ≤ (m : Int) := by omega
    have hmc : (m : Int) ≤ (c : Int) := by omega
    have hmc2 : m ≤ c := by omega
    have HTK := Lib.hid (show ∀ j x, (bs.take m)[j]? = some x → (bs.take m).take (j + 1) = (bs.take m).take j ++ [x] from fun j x h => by rw [List.take_add_one, h]; rfl)
    have HFU := Lib.hid (show (bs.take m).take m = bs.take m from List.take_of_length_le (by rw [List.length_take]; omega))
    have HLN := Lib.hid hB2.len
    clear hb hB2 hzz hA
    generalize bs.take m = cs at *
    go_enter Tryd.func13, Tryd.ntmps13
    go_wp2_with fail
    go_loopw [3, 5, 12] (fun v _ i wr => ∃ j : Nat, j ≤ m ∧ i = .int .i64 j ∧ v = .int .i64 (zb (cs.take j)) ∧ wr = w) (fun _ _ i _ => m - (intOf i).toNat)
    case atStart => exact ⟨0, by omega, rfl, rfl, rfl⟩
    case round =>
      obtain ⟨j, hj, rfl, rfl, rfl⟩ := hrel
      have hbd := zb_bound (cs.take j)
      rw [List.length_take] at hbd
      by_cases hlt : j < m
      · obtain ⟨a', x, ha', hx, hcell⟩ := HB.out.at_ hlt
        obtain rfl : a = a' := by injection ha'
        have hxl := x.toNat_lt
        have HO := Lib.hid (ones_any (x.toNat : Int) wr (by omega) (by omega))
        rw [Int.toNat_natCast] at HO
        have hol := ones_le_f ⟨x.toNat, x.toNat_lt⟩
        simp only at hol
        have HT1 := Lib.hid (show zb (cs.take (j + 1)) = zb (cs.take j) + (8 - (Lib.onesCount x.toNat : Int)) by rw [HTK.out j x hx, zb_snoc])
        obtain ⟨oc, hoc⟩ : ∃ oc, Lib.onesCount x.toNat = oc := ⟨_, rfl⟩
        rw [hoc] at HO HT1 hol
        obtain ⟨zv, hzv⟩ : ∃ zv, zb (cs.take j) = zv := ⟨_, rfl⟩
        rw [hzv] at hbd HT1
        have e1 : IntKind.i64.wrap (8 - (oc : Int)) = 8 - (oc : Int) := by rw [IntKind.wrap_i64]; omega
        have e2 : IntKind.i64.wrap (zv + (8 - (oc : Int))) = zv + (8 - (oc : Int)) := by rw [IntKind.wrap_i64]; omega
        rw [hzv]
        clear hx hoc hzv
        go_wp2_with fail
        refine HO.out.mono ?_
        rintro e w' ⟨rfl, rfl⟩
        go_wp2
        go_roundw
        case rel => exact ⟨j + 1, by omega, by go_num, by rw [HT1.out], by first | trivial | rfl⟩
        case measure => simp [intOf]; omega
      · obtain rfl : j = m := by omega
        rw [HFU.out]
        go_wp2
        go_ret
        exact ⟨ret_int HZ.out.symm, rfl⟩
end Go.Proofs.YtcmpkcmfhfajpaaDoor.Bits

namespace Go.Proofs.YtcmpkcmfhfajpaaDoor.Bits
open Go.RowKit Go.Proofs.YtcmpkcmfhfajpaaDoor.Wire
set_option maxHeartbeats 8000000
set_option maxRecDepth 100000
set_option linter.unusedVariables false
set_option linter.unusedSimpArgs false

def tc (t : T) : Array Value := (ints t.1 ++ ints t.2).toArray
structure TOk (t : T) : Prop where
  l1 : t.1.length = 11
  l2 : t.2.length = 11
  b : ∀ k, k ≤ 10 → 0 ≤ t.2.getD k 0 ∧ t.2.getD k 0 ≤ 100000
theorem tc_count {t : T} (h : TOk t) {k : Nat} (hk : k ≤ 10) : (tc t)[11 + k]? = some (.int .i64 (t.2.getD k 0)) := by
  have h1 := h.l1
  have h2 := h.l2
  unfold tc
  rw [List.getElem?_toArray, List.getElem?_append_right (by simp [ints]; omega)]
  simp only [ints, List.length_map, h1, Nat.add_sub_cancel_left, List.getElem?_map, List.getD_eq_getElem?_getD]
  rw [List.getElem?_eq_getElem (by omega)]; rfl
theorem tc_first {t : T} (h : TOk t) {k : Nat} (hk : k ≤ 10) : (tc t)[k]? = some (.int .i64 (t.1.getD k 0)) := by
  have h1 := h.l1
  unfold tc
  rw [List.getElem?_toArray, List.getElem?_append_left (by simp [ints]; omega)]
  simp only [ints, List.getElem?_map, List.getD_eq_getElem?_getD]
  rw [List.getElem?_eq_getElem (by omega)]; rfl
theorem tc_set1 {t : T} (h : TOk t) {k : Nat} (hk : k ≤ 10) (x : Int) : (tc t).setIfInBounds k (.int .i64 x) = tc (t.1.set k x, t.2) := by
  have h1 := h.l1
  unfold tc
  rw [List.setIfInBounds_toArray, List.set_append_left _ _ (by simp [ints]; omega)]
  simp [ints, List.map_set]
theorem tc_set2 {t : T} (h : TOk t) {k : Nat} (hk : k ≤ 10) (x : Int) : (tc t).setIfInBounds (11 + k) (.int .i64 x) = tc (t.1, t.2.set k x) := by
  have h1 := h.l1
  unfold tc
  rw [List.setIfInBounds_toArray, List.set_append_right _ _ (by simp [ints]; omega)]
  simp [ints, List.map_set, h1]
theorem TOk.set1 {t : T} (h : TOk t) (k : Nat) (x : Int) : TOk (t.1.set k x, t.2) := ⟨by simp [h.l1], h.l2, h.b⟩
theorem put_any (g p k : Nat) (t : T) (w : World) (ht : TOk t) (hk : k ≤ 10) (hlt : t.2.getD k 0 < 100000) (hp : p ≤ 100000) (hb : Blk w g 46 (tc t)) :
    Calls Tryd.prog 53 #[.pointer (some ⟨g, 0, none⟩), .int .i64 (p : Int), .int .i64 (k : Int)] w fun e w' => e = .returned (.tuple #[]) ∧ Blk w' g 46 (tc (put t p k)) ∧ w.grownBy w' (some g) := by
  have c0 : w.cell? ⟨g, 11 + k, none⟩ = some (.int .i64 (t.2.getD k 0)) := (hb.cell _).trans (tc_count ht hk)
  have h0 := (ht.b k hk).1
  have HB := Lib.hid hb
  have k0 : (0 : Int) ≤ (k : Int) := by omega
  have k1 : (k : Int) < 11 := by omega
  have e1 : IntKind.i64.wrap (t.2.getD k 0 + 1) = t.2.getD k 0 + 1 := by rw [IntKind.wrap_i64]; omega
  obtain ⟨v, hv⟩ : ∃ v, t.2.getD k 0 = v := ⟨_, rfl⟩
  rw [hv] at c0 e1
  have HV := Lib.hid hv
  clear hb hv
  by_cases hz : v = 0
  · subst hz
    have f1 : w.cell? ⟨g, k, none⟩ = some (.int .i64 (t.1.getD k 0)) := (HB.out.cell k).trans (tc_first ht hk)
    have z1 : w.frozen? ⟨g, k, none⟩ = false := HB.out.frozen k
    have K1 := HB.out.set_ k (.int .i64 (p : Int))
    rw [tc_set1 ht hk] at K1
    have ht1 := ht.set1 k (p : Int)
    have G1 := only_setCell (World.grownBy.refl w (some g)) (p := ⟨g, k, none⟩) (.inl rfl) (.int .i64 (p : Int))
    obtain ⟨W5, hW5⟩ : ∃ W5, w.setCell ⟨g, k, none⟩ (.int .i64 (p : Int)) = W5 := ⟨_, rfl⟩
    rw [hW5] at K1 G1
    have HW5 := Lib.hid hW5
    have c2 : W5.drew.cell? ⟨g, 11 + k, none⟩ = some (.int .i64 0) := ((K1.cell (11 + k)).trans (tc_count ht1 hk)).trans (by show some (Value.int .i64 (t.2.getD k 0)) = _; rw [HV.out])
    have z2 : W5.drew.frozen? ⟨g, 11 + k, none⟩ = false := K1.frozen (11 + k)
    have K2 := Lib.hid (show Blk W5.drew g 46 (tc (t.1.set k (p : Int), t.2)) from K1)
    have G2 := Lib.hid (show w.grownBy W5.drew (some g) from only_drew G1)
    have HP := Lib.hid (show put t p k = (t.1.set k (p : Int), t.2.set k (0 + 1)) by simp only [put]; rw [HV.out, if_pos rfl])
    clear K1 hW5
    go_enter Tryd.func53, Tryd.ntmps53
    go_wp2_with fail
    rw [HW5.out]
    clear c0 f1 z1
    go_still_tail 10, (by kernel_rfl)
    change wpList _ _ _ _ _ W5.drew
    generalize W5.drew = w5 at *
    go_wp2
    go_end0
    refine ⟨rfl, ?_, only_trans G2.out (only_setCell (World.grownBy.refl w5 (some g)) (p := ⟨g, 11 + k, none⟩) (.inl rfl) _)⟩
    have := K2.out.set_ (11 + k) (.int .i64 (0 + 1))
    rw [tc_set2 ht1 hk] at this
    rw [HP.out]; exact this
  · have hz' : (v == 0) = false := by simpa using hz
    have z2 : w.drew.frozen? ⟨g, 11 + k, none⟩ = false := HB.out.frozen (11 + k)
    have c2 : w.drew.cell? ⟨g, 11 + k, none⟩ = some (.int .i64 v) := c0
    have K2 := Lib.hid (show Blk w.drew g 46 (tc t) from HB.out)
    have G2 := Lib.hid (show w.grownBy w.drew (some g) from only_drew (World.grownBy.refl w (some g)))
    have HP := Lib.hid (show put t p k = (t.1, t.2.set k (v + 1)) by simp only [put]; rw [HV.out, if_neg hz])
    clear hz
    go_enter Tryd.func53, Tryd.ntmps53
    go_wp2_with fail
    clear c0
    go_still_tail 10, (by kernel_rfl)
    change wpList _ _ _ _ _ w.drew
    generalize w.drew = w5 at *
    go_wp2
    go_end0
    refine ⟨rfl, ?_, only_trans G2.out (only_setCell (World.grownBy.refl w5 (some g)) (p := ⟨g, 11 + k, none⟩) (.inl rfl) _)⟩
    have := K2.out.set_ (11 + k) (.int .i64 (v + 1))
    rw [tc_set2 ht hk] at this
    rw [HP.out]; exact this
end Go.Proofs.YtcmpkcmfhfajpaaDoor.Bits

namespace Go.Proofs.YtcmpkcmfhfajpaaDoor.Bits
open Go.RowKit Go.Proofs.YtcmpkcmfhfajpaaDoor.Wire
set_option maxHeartbeats 8000000
set_option maxRecDepth 100000
set_option linter.unusedVariables false
set_option linter.unusedSimpArgs false

structure TB (t : T) (a : Nat) : Prop where
  l1 : t.1.length = 11
  l2 : t.2.length = 11
  b : ∀ k, k ≤ 10 → 0 ≤ t.2.getD k 0 ∧ t.2.getD k 0 ≤ (a : Int)
theorem TB.ok {t : T} {a : Nat} (h : TB t a) (ha : a ≤ 100000) : TOk t := ⟨h.l1, h.l2, fun k hk => by have := h.b k hk; omega⟩
theorem TB.mono {t : T} {a b : Nat} (h : TB t a) (hab : a ≤ b) : TB t b := ⟨h.l1, h.l2, fun k hk => by have := h.b k hk; omega⟩
theorem TB.put {t : T} {a : Nat} (h : TB t a) (p k m : Nat) (hm : 1 ≤ m) : TB (put t p k) (a + m) := by
  refine ⟨?_, by simp [Bits.put, h.l2], fun j hj => ?_⟩
  · unfold Bits.put; simp only; split <;> simp [h.l1]
  · have hb := h.b j hj
    by_cases e : k = j
    · subst e
      simp only [Bits.put]
      rw [getD_set_self (by rw [h.l2]; omega)]; omega
    · simp only [Bits.put]
      rw [getD_set_other e]; omega
theorem pow_ten (j : Nat) (h : j ≤ 10) : (2 : Int) ^ j = ((2 ^ j : Nat) : Int) ∧ (2 : Nat) ^ j ≤ 1024 ∧ 1 ≤ (2 : Nat) ^ j := by
  refine ⟨by push_cast; rfl, ?_, Nat.one_le_two_pow⟩
  have : (2 : Nat) ^ j ≤ 2 ^ 10 := Nat.pow_le_pow_right (by omega) h
  omega
theorem split_any (g f e : Nat) (t : T) (w : World) (htb : TB t f) (hfe : f ≤ e) (he : e ≤ 2017) (hb : Blk w g 46 (tc t)) (hT : Tab w) (hg1 : 1 < g) :
    Calls Tryd.prog 39 #[.pointer (some ⟨g, 0, none⟩), .int .i64 (f : Int), .int .i64 (e : Int)] w fun e' w' => e' = .returned (.tuple #[]) ∧ Blk w' g 46 (tc (sp t f e)) ∧ w.grownBy w' (some g) := by
  have HT := Lib.hid hT
  have HB := Lib.hid hb
  have HTB := Lib.hid htb
  clear hT hb htb
  go_enter Tryd.func39, Tryd.ntmps39
  go_wp2_with fail
  go_loopw [1, 6] (fun fr _ wr => ∃ (a : Nat) (t' : T), a ≤ e ∧ fr = .int .i64 a ∧ TB t' a ∧ sp t' a e = sp t f e ∧ Blk wr g 46 (tc t') ∧ w.grownBy wr (some g)) (fun fr _ _ => e - (intOf fr).toNat)
  case atStart => exact ⟨f, t, hfe, rfl, HTB.out, rfl, HB.out, World.grownBy.refl w (some g)⟩
  case round =>
    obtain ⟨a, t', hae, rfl, htb', hsp, hbk, hgr⟩ := hrel
    have X1 := Lib.hid htb'
    have X2 := Lib.hid hsp
    have X3 := Lib.hid hbk
    have X4 := Lib.hid hgr
    have XT := Lib.hid (show Tab wr from fun j hj => ⟨(World.cell?_of_block (hgr.block 1 (HT.out j hj).2 (by simp; omega))).trans (HT.out j hj).1, Nat.lt_of_lt_of_le (HT.out j hj).2 hgr.size⟩)
    clear htb' hsp hbk hgr
    by_cases hlt : a < e
    · obtain ⟨o1, o2, o3, o4⟩ := ord_spec hlt
      have hmo : most a ≤ 10 := by unfold most; split; exact tz_le _ _; omega
      have HO := Lib.hid (show down a e (most a) = ord a e from rfl)
      have HMO := Lib.hid (show most a = if 0 < a then tz 10 a else 10 from rfl)
      clear o2 o4
      rcases Nat.eq_zero_or_pos a with rfl | ha
      · rw [show most 0 = 10 from rfl] at HO
        go_wp2_with fail
        go_loopw [6] (fun kk wr2 => ∃ j : Nat, j ≤ 10 ∧ kk = .int .i64 j ∧ down 0 e j = ord 0 e ∧ wr2 = wr) (fun kk _ => (intOf kk).toNat)
        case atStart => exact ⟨10, by omega, rfl, HO.out, rfl⟩
        case round =>
          obtain ⟨j, hj, rfl, hd, rfl⟩ := hrel
          have HD := Lib.hid hd
          obtain ⟨P, hP⟩ : ∃ P, (2 : Nat) ^ j = P := ⟨_, rfl⟩
          have hpt := pow_ten j hj
          rw [hP] at hpt
          obtain ⟨hp1, hp2, hp3⟩ := hpt
          have w1 : IntKind.i64.wrap ((2 : Int) ^ j) = (P : Int) := by rw [hp1, IntKind.wrap_i64]; omega
          have w2 : IntKind.i64.wrap (((0 : Nat) : Int) + (P : Int)) = ((0 + P : Nat) : Int) := by rw [IntKind.wrap_i64]; omega
          have j0 : (0 : Int) ≤ (j : Int) := by omega
          have j1 : ¬ (j : Int) < 0 := by omega
          have HPP := Lib.hid hP
          clear hd hP hp1
          by_cases hfit : 0 + P ≤ e
          · have hoj : ord 0 e = j := by
              rw [← HD.out]
              cases j with
              | zero => rfl
              | succ i => simp only [down]; rw [HPP.out, if_pos hfit]
            have HX := Lib.hid (show sp (put t' 0 j) (0 + P) e = sp t f e by rw [← X2.out, sp_step hlt, hoj, HPP.out])
            have hcb := X1.out.b j hj
            have HPU := Lib.hid (put_any g 0 j t' wr (X1.out.ok (by omega)) hj (by omega) (by omega) X3.out)
            have HTB2 := Lib.hid (X1.out.put 0 j P hp3)
            have hnf : ¬ (e : Int) < ((0 + P : Nat) : Int) := by omega
            clear hoj hfit
            go_wp2_with fail
            refine HPU.out.mono ?_
            rintro e' w' ⟨rfl, hbk2, hgr2⟩
            have Y1 := Lib.hid hbk2
            have Y2 := Lib.hid (only_trans X4.out hgr2)
            clear hbk2 hgr2 HPU
            go_wp2
            go_roundw
            case rel => exact ⟨0 + P, put t' 0 j, by omega, by go_num, HTB2.out, HX.out, Y1.out, Y2.out⟩
            case measure => simp [intOf]; omega
          · have hjj : 0 < j := by
              rcases Nat.eq_zero_or_pos j with rfl | h
              · exfalso; have := HPP.out; simp at this; omega
              · exact h
            obtain ⟨i, rfl⟩ : ∃ i, j = i + 1 := ⟨j - 1, by omega⟩
            have HX := Lib.hid (show down 0 e i = ord 0 e by rw [← HD.out]; simp only [down]; rw [HPP.out, if_neg hfit])
            have hnf : (e : Int) < ((0 + P : Nat) : Int) := by omega
            have w3 : IntKind.i64.wrap (((i + 1 : Nat) : Int) - 1) = (i : Int) := by rw [IntKind.wrap_i64]; omega
            clear hfit
            go_wp2
            go_roundw
            case rel => exact ⟨i, by omega, by go_num, HX.out, by first | trivial | rfl⟩
            case measure => simp [intOf]; try omega
      · have HTR := Lib.hid (trail_any a (by omega) (by omega) wr XT.out)
        have hc10 := ctz_ten a ha
        rw [show tz 10 a = most a by rw [HMO.out, if_pos ha]] at hc10
        have wa : IntKind.u64.wrap (a : Int) = (a : Int) := by rw [IntKind.wrap_u64]; omega
        generalize most a = mo at *
        generalize Lib.ctz 64 a = cz at *
        go_wp2_with fail
        refine HTR.out.mono ?_
        rintro e' w' ⟨rfl, rfl⟩
        go_wp2_with fail
        clear hc10 wa
        go_loopw [6] (fun kk wr2 => ∃ j : Nat, j ≤ 10 ∧ kk = .int .i64 j ∧ down a e j = ord a e ∧ wr2 = wr) (fun kk _ => (intOf kk).toNat)
        case atStart => exact ⟨mo, by omega, rfl, HO.out, rfl⟩
        case round =>
          obtain ⟨j, hj, rfl, hd, rfl⟩ := hrel
          have HD := Lib.hid hd
          obtain ⟨P, hP⟩ : ∃ P, (2 : Nat) ^ j = P := ⟨_, rfl⟩
          have hpt := pow_ten j hj
          rw [hP] at hpt
          obtain ⟨hp1, hp2, hp3⟩ := hpt
          have w1 : IntKind.i64.wrap ((2 : Int) ^ j) = (P : Int) := by rw [hp1, IntKind.wrap_i64]; omega
          have w2 : IntKind.i64.wrap (((a : Nat) : Int) + (P : Int)) = ((a + P : Nat) : Int) := by rw [IntKind.wrap_i64]; omega
          have j0 : (0 : Int) ≤ (j : Int) := by omega
          have j1 : ¬ (j : Int) < 0 := by omega
          have HPP := Lib.hid hP
          clear hd hP hp1
          by_cases hfit : a + P ≤ e
          · have hoj : ord a e = j := by
              rw [← HD.out]
              cases j with
              | zero => rfl
              | succ i => simp only [down]; rw [HPP.out, if_pos hfit]
            have HX := Lib.hid (show sp (put t' a j) (a + P) e = sp t f e by rw [← X2.out, sp_step hlt, hoj, HPP.out])
            have hcb := X1.out.b j hj
            have HPU := Lib.hid (put_any g a j t' wr (X1.out.ok (by omega)) hj (by omega) (by omega) X3.out)
            have HTB2 := Lib.hid (X1.out.put a j P hp3)
            have hnf : ¬ (e : Int) < ((a + P : Nat) : Int) := by omega
            clear hoj hfit
            go_wp2_with fail
            refine HPU.out.mono ?_
            rintro e' w' ⟨rfl, hbk2, hgr2⟩
            have Y1 := Lib.hid hbk2
            have Y2 := Lib.hid (only_trans X4.out hgr2)
            clear hbk2 hgr2 HPU
            go_wp2
            go_roundw
            case rel => exact ⟨a + P, put t' a j, by omega, by go_num, HTB2.out, HX.out, Y1.out, Y2.out⟩
            case measure => simp [intOf]; omega
          · have hjj : 0 < j := by
              rcases Nat.eq_zero_or_pos j with rfl | h
              · exfalso; have := HPP.out; simp at this; omega
              · exact h
            obtain ⟨i, rfl⟩ : ∃ i, j = i + 1 := ⟨j - 1, by omega⟩
            have HX := Lib.hid (show down a e i = ord a e by rw [← HD.out]; simp only [down]; rw [HPP.out, if_neg hfit])
            have hnf : (e : Int) < ((a + P : Nat) : Int) := by omega
            have w3 : IntKind.i64.wrap (((i + 1 : Nat) : Int) - 1) = (i : Int) := by rw [IntKind.wrap_i64]; omega
            clear hfit
            go_wp2
            go_roundw
            case rel => exact ⟨i, by omega, by go_num, HX.out, by first | trivial | rfl⟩
            case measure => simp [intOf]; try omega
    · obtain rfl : a = e := by omega
      have HX := Lib.hid (show t' = sp t f a by rw [← X2.out, sp_end (by omega)])
      go_wp2
      go_end0
      exact ⟨rfl, by rw [← HX.out]; exact X3.out, X4.out⟩
end Go.Proofs.YtcmpkcmfhfajpaaDoor.Bits

namespace Go.Proofs.YtcmpkcmfhfajpaaDoor.Bits
open Go.RowKit Go.Proofs.YtcmpkcmfhfajpaaDoor.Wire
set_option maxHeartbeats 16000000
set_option maxRecDepth 100000
set_option linter.unusedVariables false
set_option linter.unusedSimpArgs false

theorem TB.sp (n : Nat) : ∀ {t : T} {f e : Nat}, e - f ≤ n → f ≤ e → TB t f → TB (sp t f e) e := by
  induction n with
  | zero =>
    intro t f e hn hfe h
    obtain rfl : f = e := by omega
    rw [sp_end (by omega)]; exact h
  | succ n ih =>
    intro t f e hn hfe h
    rcases Nat.eq_or_lt_of_le hfe with rfl | hlt
    · rw [sp_end (by omega)]; exact h
    · obtain ⟨o1, o2, o3, o4⟩ := ord_spec hlt
      have hp := pow_pos2 (ord f e)
      rw [sp_step hlt]
      exact ih (by omega) o3 (h.put f (ord f e) (2 ^ ord f e) hp)
def BInv (x : T × Option Nat) (i : Nat) : Prop := match x.2 with | none => TB x.1 i | some f => f < i ∧ TB x.1 f
theorem BInv.step {s : Nat → Bool} {x : T × Option Nat} {i : Nat} (h : BInv x i) : BInv (bstep s x i) (i + 1) := by
  obtain ⟨t, o⟩ := x
  cases hs : s i <;> cases o with
  | none => _
  | some f => _
  · simp only [bstep, hs]; exact ⟨by omega, h⟩
  · simp only [bstep, hs]; exact ⟨by have := h.1; omega, h.2⟩
  · simp only [bstep, hs]; exact TB.mono h (by omega)
  · simp only [bstep, hs]; exact (TB.sp (i - f) (Nat.le_refl _) (Nat.le_of_lt h.1) h.2).mono (by omega)
theorem BInv.all (s : Nat → Bool) : ∀ n, BInv (boF s n) n
  | 0 => ⟨rfl, rfl, fun k hk => by rw [show (boF s 0).1.2.getD k 0 = 0 from rep_zero k]; omega⟩
  | n + 1 => by rw [boF_succ]; exact (BInv.all s n).step
def frZ : Option Nat → Int
  | none => -1
  | some f => f
theorem eleven {l : List Int} (h : l.length = 11) : ∃ x0 x1 x2 x3 x4 x5 x6 x7 x8 x9 x10 : Int, l = [x0, x1, x2, x3, x4, x5, x6, x7, x8, x9, x10] := by
  match l, h with
  | [x0, x1, x2, x3, x4, x5, x6, x7, x8, x9, x10], _ => exact ⟨x0, x1, x2, x3, x4, x5, x6, x7, x8, x9, x10, rfl⟩
theorem load_bud {w : World} {g : Nat} {cs : Array Value} (h : Blk w g 46 cs) (hs : cs.size = 22) : (loadVar 46 ⟨g, 0, none⟩).run Tryd.prog w = .ok (.agg cs) w := by
  have hl := run_loadCells_list (P := Tryd.prog) w ⟨g, 0, none⟩ cs.toList (fun j v hj => by rw [add_plain, Nat.zero_add, h.cell j]; simpa using hj)
  have ha : (isAgg 46).run Tryd.prog w = .ok true w := by simp [go_sem]
  have hz : (sizeOf 46).run Tryd.prog w = .ok 22 w := by simp [go_sem]
  rw [Array.length_toList, hs] at hl
  simp [loadVar, ha, hz, hl, Result.andThen]
theorem tc_one (t : T) : (tc t).all (·.oneCell') = true := by
  rw [Array.all_eq_true_iff_forall_mem]
  intro u hu
  simp only [tc, List.mem_toArray, List.mem_append, ints, List.mem_map] at hu
  rcases hu with ⟨x, _, rfl⟩ | ⟨x, _, rfl⟩ <;> rfl
theorem below_rowSet {w wr : World} (h : Below w.heap.size w wr) (cs : Array Value) : Below w.heap.size w (wr.setRow w.heap.size cs) :=
  h.trans ⟨rfl, rfl, rfl, by simp [World.setRow], fun k hk => setRow_other wr w.heap.size k cs (by omega)⟩
theorem of_end {w wf : World} {bs : List UInt8} {cs : Array Value} (h : tc (bo (setN bs)) = cs) (hs : cs.size = 22) (hk : Blk wf w.heap.size 46 cs) (hb : Below w.heap.size w wf) (a : Act) (ha : a.defers = []) (ht : a.tmps.getD 2 undef = .pointer (some ⟨w.heap.size, 0, none⟩)) :
    bodyPost Tryd.prog Tryd.f28 (fun e w' => e = .returned (.agg (tc (bo (setN bs)))) ∧ Below w.heap.size w w') .ret a wf := by
  have hl := load_bud hk hs
  refine bodyPost_ret (v := .agg cs) ?_ ha ⟨by rw [h], hb⟩
  have hr : Tryd.f28.results = #[.cell 2 46] := rfl
  unfold results
  rw [hr]
  have ht2 : a.tmps[2]?.getD undef = .pointer (some ⟨w.heap.size, 0, none⟩) := by simpa using ht
  simp [asAddr, ht2, hl, Result.andThen]
theorem buddiesOf_any (A : Option Addr) (n c : Nat) (bs : List UInt8) (w : World) (hb : BytesAt w A n bs) (hT : Tab w) :
    Calls Tryd.prog 28 #[.slice A n c] w fun e w' => e = .returned (.agg (tc (bo (setN bs)))) ∧ Below w.heap.size w w' := by
  obtain ⟨W, hW⟩ : ∃ W, (w.alloc (.cells #[.int .i64 0, .int .i64 0, .int .i64 0, .int .i64 0, .int .i64 0, .int .i64 0, .int .i64 0, .int .i64 0, .int .i64 0, .int .i64 0, .int .i64 0, .int .i64 0, .int .i64 0, .int .i64 0, .int .i64 0, .int .i64 0, .int .i64 0, .int .i64 0, .int .i64 0, .int .i64 0, .int .i64 0, .int .i64 0] 46)).alloc (.cells #[.int .i64 0, .int .i64 0, .int .i64 0, .int .i64 0, .int .i64 0, .int .i64 0, .int .i64 0, .int .i64 0, .int .i64 0, .int .i64 0, .int .i64 0, .int .i64 0, .int .i64 0, .int .i64 0, .int .i64 0, .int .i64 0, .int .i64 0, .int .i64 0, .int .i64 0, .int .i64 0, .int .i64 0, .int .i64 0] 46) = W := ⟨_, rfl⟩
  have hbx : Blk W w.heap.size 46 #[.int .i64 0, .int .i64 0, .int .i64 0, .int .i64 0, .int .i64 0, .int .i64 0, .int .i64 0, .int .i64 0, .int .i64 0, .int .i64 0, .int .i64 0, .int .i64 0, .int .i64 0, .int .i64 0, .int .i64 0, .int .i64 0, .int .i64 0, .int .i64 0, .int .i64 0, .int .i64 0, .int .i64 0, .int .i64 0] ∧ Blk W (w.heap.size + 1) 46 (tc T0) ∧ Below w.heap.size w W := by
    subst hW
    refine ⟨(Blk.new w _ _).alloc _, ?_, ((Below.refl w.heap.size w).alloc (Nat.le_refl _) _).alloc (by simp) _⟩
    have := Blk.new (w.alloc (.cells #[.int .i64 0, .int .i64 0, .int .i64 0, .int .i64 0, .int .i64 0, .int .i64 0, .int .i64 0, .int .i64 0, .int .i64 0, .int .i64 0, .int .i64 0, .int .i64 0, .int .i64 0, .int .i64 0, .int .i64 0, .int .i64 0, .int .i64 0, .int .i64 0, .int .i64 0, .int .i64 0, .int .i64 0, .int .i64 0] 46)) 46 #[.int .i64 0, .int .i64 0, .int .i64 0, .int .i64 0, .int .i64 0, .int .i64 0, .int .i64 0, .int .i64 0, .int .i64 0, .int .i64 0, .int .i64 0, .int .i64 0, .int .i64 0, .int .i64 0, .int .i64 0, .int .i64 0, .int .i64 0, .int .i64 0, .int .i64 0, .int .i64 0, .int .i64 0, .int .i64 0]
    rw [show (w.alloc (.cells #[.int .i64 0, .int .i64 0, .int .i64 0, .int .i64 0, .int .i64 0, .int .i64 0, .int .i64 0, .int .i64 0, .int .i64 0, .int .i64 0, .int .i64 0, .int .i64 0, .int .i64 0, .int .i64 0, .int .i64 0, .int .i64 0, .int .i64 0, .int .i64 0, .int .i64 0, .int .i64 0, .int .i64 0, .int .i64 0] 46)).heap.size = w.heap.size + 1 from by simp] at this
    exact this
  obtain ⟨b0, b1, hbel⟩ := hbx
  have HW := Lib.hid hW
  have Z1 := Lib.hid b0
  have K1 := Lib.hid b1
  have B1 := Lib.hid hbel
  have HB := Lib.hid hb
  have HT := Lib.hid hT
  have HBF := Lib.hid (show bo (setN bs) = (boF (setN bs) 2017).1 from rfl)
  have h1w : 1 < w.heap.size := (hT 0 (by omega)).2
  clear hW b0 b1 hbel hb hT
  go_enter Tryd.func28, Tryd.ntmps28
  go_wp2_with fail
  rw [HW.out]
  go_loopw [4, 5, 6, 7] (fun fr _ _ ii wr => ∃ i : Nat, i ≤ 2017 ∧ ii = .int .i64 i ∧ fr = .int .i64 (frZ (boF (setN bs) i).2) ∧ Blk wr w.heap.size 46 #[.int .i64 0, .int .i64 0, .int .i64 0, .int .i64 0, .int .i64 0, .int .i64 0, .int .i64 0, .int .i64 0, .int .i64 0, .int .i64 0, .int .i64 0, .int .i64 0, .int .i64 0, .int .i64 0, .int .i64 0, .int .i64 0, .int .i64 0, .int .i64 0, .int .i64 0, .int .i64 0, .int .i64 0, .int .i64 0] ∧ Blk wr (w.heap.size + 1) 46 (tc (boF (setN bs) i).1) ∧ Below w.heap.size w wr) (fun _ _ _ ii _ => 2017 - (intOf ii).toNat)
  case atStart => exact ⟨0, by omega, rfl, rfl, Z1.out, K1.out, B1.out⟩
  case round =>
    obtain ⟨i, hi, rfl, rfl, hz, hk, hbel⟩ := hrel
    have Z4 := Lib.hid hz
    have K4 := Lib.hid hk
    have B4 := Lib.hid hbel
    have hinv := BInv.all (setN bs) i
    have HBS := Lib.hid (boF_succ (setN bs) i)
    clear hz hk hbel
    by_cases hlt : i < 2017
    · have HS := Lib.hid (set_any A n c bs (i : Int) wr (HB.out.below B4.out))
      rw [show setZ bs (i : Int) = setN bs i by rw [setZ, show decide ((i : Int) < 0) = false by simp]; rfl] at HS
      obtain ⟨⟨t, o⟩, hx⟩ : ∃ x, boF (setN bs) i = x := ⟨_, rfl⟩
      rw [hx] at K4 HBS hinv ⊢
      simp only at K4
      clear hx
      cases hs : setN bs i <;> cases o with
      | none => _
      | some f => _
      · rw [hs] at HS
        have HX := Lib.hid (show boF (setN bs) (i + 1) = (t, some i) by rw [HBS.out]; simp only [bstep, hs])
        have hfr : frZ none = -1 := rfl
        simp only [hfr]
        clear hs hfr
        go_wp2_with fail
        refine HS.out.mono ?_
        rintro e w' ⟨rfl, rfl⟩
        go_wp2
        go_roundw
        case rel => exact ⟨i + 1, by omega, by go_num, by rw [HX.out]; rfl, Z4.out, by rw [HX.out]; exact K4.out, B4.out⟩
        case measure => simp [intOf]; omega
      · rw [hs] at HS
        have HX := Lib.hid (show boF (setN bs) (i + 1) = (t, some f) by rw [HBS.out]; simp only [bstep, hs])
        have hfr : frZ (some f) = (f : Int) := rfl
        simp only [hfr]
        have hf0 : ¬ (f : Int) < 0 := by omega
        clear hs hfr
        go_wp2_with fail
        refine HS.out.mono ?_
        rintro e w' ⟨rfl, rfl⟩
        go_wp2
        go_roundw
        case rel => exact ⟨i + 1, by omega, by go_num, by rw [HX.out]; rfl, Z4.out, by rw [HX.out]; exact K4.out, B4.out⟩
        case measure => simp [intOf]; omega
      · rw [hs] at HS
        have HX := Lib.hid (show boF (setN bs) (i + 1) = (t, none) by rw [HBS.out]; simp only [bstep, hs])
        have hfr : frZ none = -1 := rfl
        simp only [hfr]
        clear hs hfr
        go_wp2_with fail
        refine HS.out.mono ?_
        rintro e w' ⟨rfl, rfl⟩
        go_wp2
        go_roundw
        case rel => exact ⟨i + 1, by omega, by go_num, by rw [HX.out]; rfl, Z4.out, by rw [HX.out]; exact K4.out, B4.out⟩
        case measure => simp [intOf]; omega
      · rw [hs] at HS
        have HX := Lib.hid (show boF (setN bs) (i + 1) = (sp t f i, none) by rw [HBS.out]; simp only [bstep, hs])
        have hfr : frZ (some f) = (f : Int) := rfl
        simp only [hfr]
        have hf0 : (0 : Int) ≤ (f : Int) := by omega
        have HSP := Lib.hid (split_any (w.heap.size + 1) f i t wr hinv.2 (Nat.le_of_lt hinv.1) (by omega) K4.out (HT.out.below B4.out) (by omega))
        clear hs hfr
        go_wp2_with fail
        refine HS.out.mono ?_
        rintro e w' ⟨rfl, rfl⟩
        go_wp2_with fail
        refine HSP.out.mono ?_
        rintro e w5 ⟨rfl, hk5, hg5⟩
        have K5 := Lib.hid hk5
        have Z5 := Lib.hid (Z4.out.grown hg5 (by simp))
        have B5 := Lib.hid (below_only B4.out hg5 (fun g e => by injection e with e; omega))
        clear hk5 hg5 HSP
        go_wp2
        go_roundw
        case rel => exact ⟨i + 1, by omega, by go_num, by rw [HX.out]; rfl, Z5.out, by rw [HX.out]; exact K5.out, B5.out⟩
        case measure => simp [intOf]; omega
    · obtain rfl : i = 2017 := by omega
      rw [← HBF.out] at K4
      have hl1 : (bo (setN bs)).1.length = 11 := (bo_good (setN bs) (setN_far bs 2016 (Nat.le_refl _))).l1
      have hl2 : (bo (setN bs)).2.length = 11 := (bo_good (setN bs) (setN_far bs 2016 (Nat.le_refl _))).l2
      obtain ⟨cs, hcs⟩ : ∃ cs, tc (bo (setN bs)) = cs := ⟨_, rfl⟩
      have hsz : cs.size = 22 := by rw [← hcs]; simp [tc, ints, hl1, hl2]
      have hone : cs.all (·.oneCell') = true := by rw [← hcs]; exact tc_one _
      have hinf : (Tryd.prog.info? 46).map (·.size) = some cs.size := by rw [hsz]; kernel_rfl
      rw [hcs] at K4
      have HCS := Lib.hid hcs
      have HIN := Lib.hid hinf
      have HON := Lib.hid hone
      have HSZ := Lib.hid hsz
      clear hinv HBS hl1 hl2 hcs hinf hone hsz
      go_wp2_with (first
        | (refine wpList_load_row rfl 46 (.tmp 3) rfl (w.heap.size + 1) rfl 46 cs (0, 0) _ K4.out Tryd.underlying46 rfl HIN.out ?_)
        | (refine wpList_store_row rfl 46 (.tmp 2) (.tmp 31) rfl w.heap.size cs rfl rfl 46 _ Z4.out HIN.out (by rw [HSZ.out]; rfl) HON.out ?_)
        | fail)
      refine of_end HCS.out HSZ.out (setRow_heap wr w.heap.size _ cs 46 (0, 0) Z4.out) (below_rowSet B4.out cs) _ rfl rfl
end Go.Proofs.YtcmpkcmfhfajpaaDoor.Bits
