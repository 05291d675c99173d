
/-
  PLAIN: layer 5 (bits): how many are free; the buddies part what is free; what is found.
  PLAIN: layer 5 (bits): bitmaps that are new or turned, as bits; what is found is free; what is found where.
  layer 5's examples (awake): plain, and the walk.
  WHAT THE TIED CARD GIVES THE WALKS: the library's table of 64, as its initialiser lays it.
-/
import Derived.Test.YtcmpkcmfhfajpaaDoorKR4N6
import Derived.Test.YtcmpkcmfhfajpaaDoorRows
import Derived.Test.YtcmpkcmfhfajpaaDoorKR4N5
import Derived.ProofKit
import Derived.LaidMore
import Derived.OpenShut
import Derived.Stop.Joined
namespace Go.Proofs.YtcmpkcmfhfajpaaDoor.Bits
open Go.RowKit Go.Proofs.YtcmpkcmfhfajpaaDoor.Wire
set_option maxHeartbeats 4000000
set_option linter.unusedVariables false
set_option linter.unusedSimpArgs false

theorem sealed_seal8 (seed : BitVec 32) (bs : List UInt8) (h : 4 ≤ bs.length) : sealedB seed (sealB seed bs) = true := by
  have hl := sealB_len8 seed bs
  unfold sealedB
  rw [hl]
  have ht : (sealB seed bs).take (bs.length - 4) = bs.take (bs.length - 4) := by
    rw [sealB, if_pos h, List.take_append_of_le_length (by rw [List.length_take]; omega), List.take_of_length_le (by rw [List.length_take]; omega)]
  have hd : (sealB seed bs).drop (bs.length - 4) = le 4 (crc seed (bs.take (bs.length - 4))).toNat := by
    rw [sealB, if_pos h, List.drop_append_of_le_length (by rw [List.length_take]; omega), List.drop_of_length_le (by rw [List.length_take]; omega), List.nil_append]
  rw [ht, hd, num_le _ _ (show (crc seed (bs.take (bs.length - 4))).toNat < 256 ^ 4 from (crc seed _).isLt)]
  simp [h]
/-! ### how many are free -/
def n01 (b : Bool) : Nat := if b = false then 1 else 0
theorem eight_f : ∀ x : Fin 256, Lib.onesCount x.val + (n01 (x.val.testBit 0) + n01 (x.val.testBit 1) + n01 (x.val.testBit 2) + n01 (x.val.testBit 3) + n01 (x.val.testBit 4) + n01 (x.val.testBit 5) + n01 (x.val.testBit 6) + n01 (x.val.testBit 7)) = 8 := by decide +kernel
theorem zc_n01 (s : Nat → Bool) (i : Nat) : zc s (i + 1) = zc s i + n01 (s i) := rfl
theorem zc_byte {bs : List UInt8} {j : Nat} {x : UInt8} (hj : j < 252) (hx : bs[j]? = some x) : (zc (setN bs) (8 * j + 8) : Int) = zc (setN bs) (8 * j) + (8 - (Lib.onesCount x.toNat : Int)) := by
  have hs : ∀ r, r < 8 → setN bs (8 * j + r) = x.toNat.testBit r := fun r hr => by
    have := setN_in (bs := bs) (i := 8 * j + r) (x := x) (by omega) (by rw [show (8 * j + r) / 8 = j by omega]; exact hx)
    rw [this, show (8 * j + r) % 8 = r by omega]
  have e := eight_f ⟨x.toNat, x.toNat_lt⟩
  simp only at e
  have st : ∀ r, r < 8 → zc (setN bs) (8 * j + (r + 1)) = zc (setN bs) (8 * j + r) + n01 (x.toNat.testBit r) := fun r hr => by
    rw [← hs r hr]; exact zc_n01 _ _
  have e0 := st 0 (by omega)
  have e1 := st 1 (by omega)
  have e2 := st 2 (by omega)
  have e3 := st 3 (by omega)
  have e4 := st 4 (by omega)
  have e5 := st 5 (by omega)
  have e6 := st 6 (by omega)
  have e7 := st 7 (by omega)
  simp only [Nat.add_zero, Nat.zero_add, Nat.reduceAdd] at e0 e1 e2 e3 e4 e5 e6 e7
  omega
theorem zc_tail {s : Nat → Bool} {a : Nat} : ∀ m, (∀ i, a ≤ i → i < a + m → s i = true) → zc s (a + m) = zc s a
  | 0, _ => rfl
  | m + 1, h => by
    rw [← Nat.add_assoc]
    simp only [zc]
    rw [zc_tail m (fun i h1 h2 => h i h1 (by omega)), h (a + m) (by omega) (by omega)]
    rfl
theorem zb_zc (bs : List UInt8) : ∀ j, j ≤ 252 → j ≤ bs.length → zb (bs.take j) = (zc (setN bs) (8 * j) : Int)
  | 0, _, _ => rfl
  | j + 1, h1, h2 => by
    obtain ⟨x, hx⟩ : ∃ x, bs[j]? = some x := ⟨_, List.getElem?_eq_getElem (by omega)⟩
    rw [List.take_add_one, hx, Option.toList_some, zb_snoc, zb_zc bs j (by omega) (by omega), show 8 * (j + 1) = 8 * j + 8 by omega, zc_byte (by omega) hx]
theorem zerosZ_zc (bs : List UInt8) : zerosZ bs = (zc (setN bs) 2016 : Int) := by
  unfold zerosZ
  rcases Nat.le_total 252 bs.length with h | h
  · rw [zb_zc bs 252 (Nat.le_refl _) h]
  · rw [List.take_of_length_le h, ← List.take_of_length_le (Nat.le_refl bs.length), zb_zc bs bs.length h (Nat.le_refl _), List.take_of_length_le (Nat.le_refl _)]
    have := zc_tail (s := setN bs) (a := 8 * bs.length) (2016 - 8 * bs.length) (fun i h1 h2 => by
      rw [setN, decide_eq_true (show bs.length ≤ i / 8 by omega)]; simp)
    rw [show 8 * bs.length + (2016 - 8 * bs.length) = 2016 by omega] at this
    rw [this]

/-! ### the buddies part what is free -/
noncomputable def sumC (s : Nat → Bool) (a : Nat) : Nat → Nat
  | 0 => 0
  | k + 1 => sumC s a k + cnt s k a * 2 ^ k
theorem sumC_set {s : Nat → Bool} {a : Nat} (h : s a = true) : ∀ k, sumC s (a + 1) k = sumC s a k
  | 0 => rfl
  | k + 1 => by simp only [sumC]; rw [sumC_set h k, (cnt_set h).1]
theorem sumC_chunk {s : Nat → Bool} {a k : Nat} (hb : buddy s a k) (hu : ∀ p j, a ≤ p → p < a + 2 ^ k → buddy s p j → p = a ∧ j = k) : ∀ n, sumC s (a + 2 ^ k) n = sumC s a n + (if k < n then 2 ^ k else 0)
  | 0 => by simp [sumC]
  | n + 1 => by
    simp only [sumC]
    rw [sumC_chunk hb hu n, (cnt_chunk hb hu n).1]
    by_cases e : n = k
    · subst e
      rw [if_neg (by omega), if_pos rfl, if_pos (by omega), Nat.add_mul]; omega
    · rw [if_neg e, Nat.add_zero]
      by_cases e2 : k < n
      · rw [if_pos e2, if_pos (by omega)]; omega
      · rw [if_neg e2, if_neg (by omega)]; omega
theorem sum_sp {s : Nat → Bool} {N : Nat} (hN : 10 < N) (n : Nat) : ∀ {f e : Nat}, e - f ≤ n → f ≤ e → sumC s f N = zc s f → NS s f → (∀ i, f ≤ i → i < e → s i = false) → s e = true → sumC s e N = zc s e ∧ NS s e := by
  induction n with
  | zero =>
    intro f e hn hfe hg hns _ _
    obtain rfl : f = e := by omega
    exact ⟨hg, hns⟩
  | succ n ih =>
    intro f e hn hfe hg hns hfree he
    rcases Nat.eq_or_lt_of_le hfe with rfl | hlt
    · exact ⟨hg, hns⟩
    · obtain ⟨o1, o2, o3, o4⟩ := ord_spec hlt
      obtain ⟨g1, g2, g3⟩ := greedy hns hfree he o1 o2 o3 o4
      have hp := pow_pos2 (ord f e)
      refine ih (by omega) o3 ?_ g2 (fun i h1 h2 => hfree i (by omega) h2) he
      rw [sumC_chunk g1 g3 N, if_pos (by omega), hg, zc_free _ (fun p h1 h2 => hfree p h1 (by omega))]
def SInv (N : Nat) (s : Nat → Bool) (o : Option Nat) (n : Nat) : Prop :=
  match o with
  | none => sumC s n N = zc s n ∧ NS s n
  | some f => f < n ∧ sumC s f N = zc s f ∧ NS s f ∧ ∀ i, f ≤ i → i < n → s i = false
theorem sumC_zero (s : Nat → Bool) : ∀ N, sumC s 0 N = 0
  | 0 => rfl
  | N + 1 => by simp only [sumC, sumC_zero s N, cnt, Nat.zero_mul]
theorem sinv {N : Nat} (hN : 10 < N) (s : Nat → Bool) : ∀ n, ∃ o, SInv N s o n ∧ (∀ m, n = m + 1 → s m = true → o = none)
  | 0 => ⟨none, ⟨sumC_zero s N, NS_zero s⟩, fun m h => by omega⟩
  | n + 1 => by
    obtain ⟨o, h, _⟩ := sinv hN s n
    cases hs : s n with
    | true =>
      refine ⟨none, ?_, fun _ _ _ => rfl⟩
      cases o with
      | none => exact ⟨by rw [sumC_set hs, (cnt_set (k := 0) hs).2.2]; exact h.1, NS_set hs⟩
      | some f =>
        obtain ⟨h1, h2, h3, h4⟩ := h
        obtain ⟨g1, g2⟩ := sum_sp hN (n - f) (Nat.le_refl _) (by omega) h2 h3 h4 hs
        exact ⟨by rw [sumC_set hs, (cnt_set (k := 0) hs).2.2]; exact g1, NS_set hs⟩
    | false =>
      cases o with
      | none => exact ⟨some n, ⟨by omega, h.1, h.2, fun i h1 h2 => by obtain rfl : i = n := (by omega); exact hs⟩, fun m e h2 => by obtain rfl : n = m := (by omega); rw [hs] at h2; cases h2⟩
      | some f =>
        obtain ⟨h1, h2, h3, h4⟩ := h
        exact ⟨some f, ⟨by omega, h2, h3, fun i h5 h6 => by
          rcases Nat.lt_or_ge i n with h7 | h7
          · exact h4 i h5 h7
          · obtain rfl : i = n := by omega
            exact hs⟩, fun m e h2 => by obtain rfl : n = m := (by omega); rw [hs] at h2; cases h2⟩
theorem sum_all (s : Nat → Bool) (h : s 2016 = true) : sumC s 2017 11 = zc s 2016 := by
  obtain ⟨o, h1, h2⟩ := sinv (N := 11) (by omega) s 2017
  obtain rfl := h2 2016 rfl h
  rw [h1.1, (cnt_set (k := 0) h).2.2]
end Go.Proofs.YtcmpkcmfhfajpaaDoor.Bits

namespace Go.Proofs.YtcmpkcmfhfajpaaDoor.Bits
open Go.RowKit Go.Proofs.YtcmpkcmfhfajpaaDoor.Wire
set_option maxHeartbeats 4000000
set_option linter.unusedVariables false
set_option linter.unusedSimpArgs false

theorem setN_seal {a : List UInt8} (seed : BitVec 32) (ha : a.length = 256) {i : Nat} (h : i < 2016) : setN (sealB seed a) i = bitB a i := by
  rw [setN_256 (by rw [sealB_len8]; exact ha) h, bitB_seal seed ha h]
theorem newB_eq {n : Nat} (seed : BitVec 32) (hn : n ≤ 2016) : newB (n : Int) seed = sealB seed (newL n) := by
  rw [newB, if_neg (by omega)]; rfl
theorem setN_new {n : Nat} (seed : BitVec 32) (hn : n ≤ 2016) (i : Nat) : setN (newB (n : Int) seed) i = decide (n ≤ i) := by
  rw [newB_eq seed hn]
  rcases Nat.lt_or_ge i 2016 with h | h
  · rw [setN_seal seed (newL_length n) h, bitB_newL hn h]
  · rw [setN_far _ _ h, decide_eq_true (by omega)]
theorem chk_new {n : Nat} (seed : BitVec 32) (hn : n ≤ 2016) : chkE (newB (n : Int) seed) n seed = 0 := by
  rw [chkE, if_neg (by omega), newB_eq seed hn, if_pos]
  refine ⟨?_, allSet_true fun i h1 h2 => ?_⟩
  · rw [sealB_len8, newL_length, sealed_seal8 seed _ (by rw [newL_length]; omega)]; rfl
  · rw [← newB_eq seed hn, setN_new seed hn]
    exact decide_eq_true (by simpa using h1)
/-- A turn that was allowed. -/
structure Turned (bs : List UInt8) (n f c : Int) (on : Bool) (seed : BitVec 32) (p m : Nat) : Prop where
  hf : f = (p : Int)
  hc : c = (m : Int)
  hm : 1 ≤ m
  hn : (p : Int) + m ≤ n ∧ n ≤ 2016
  len : bs.length = 256
  was : ∀ i, p ≤ i → i < p + m → setN bs i = !on
  out : turnB bs n f c on seed = sealB seed (turns m p bs)
  olen : (turnB bs n f c on seed).length = 256
  now : ∀ i, setN (turnB bs n f c on seed) i = if p ≤ i ∧ i < p + m then on else setN bs i
  all : allSet bs n.toNat = true
theorem turned_of {bs : List UInt8} {n f c : Int} {on : Bool} {seed : BitVec 32} (h : turnE bs n f c on seed = 0) : ∃ p m, Turned bs n f c on seed p m := by
  have h0 := h
  unfold turnE at h
  split at h
  · rename_i hck; exact absurd h hck
  · rename_i hck
    have hck : chkE bs n seed = 0 := by
      rcases Int.lt_trichotomy (chkE bs n seed) 0 with h | h | h
      · exact absurd (by omega) hck
      · exact h
      · exact absurd (by omega) hck
    obtain ⟨n0, n1, h256, hsl, has⟩ := chkE_zero hck
    split at h
    · cases h
    · rename_i hbad
      split at h
      · cases h
      · rename_i hhit
        have hbad : turnBad n f c = false := by simpa using hbad
        have hhit : turnHit bs f.toNat c.toNat on = false := by simpa using hhit
        simp only [turnBad, Bool.or_eq_false_iff, decide_eq_false_iff_not] at hbad
        obtain ⟨p, rfl⟩ := Int.eq_ofNat_of_zero_le (show 0 ≤ f by omega)
        obtain ⟨m, rfl⟩ := Int.eq_ofNat_of_zero_le (show 0 ≤ c by omega)
        simp only [Int.toNat_natCast] at hhit
        have hout : turnB bs n (p : Int) (m : Int) on seed = sealB seed (turns m p bs) := by rw [turnB, if_pos h0]; rfl
        have hlt : (turns m p bs).length = 256 := by rw [turns_length]; exact h256
        have hwas : ∀ i, p ≤ i → i < p + m → setN bs i = !on := fun i h1 h2 => by
          unfold turnHit at hhit
          rw [List.any_eq_false] at hhit
          have := hhit (i - p) (by rw [List.mem_range]; omega)
          rw [show p + (i - p) = i by omega] at this
          cases hs : setN bs i <;> cases on <;> simp_all
        refine ⟨p, m, rfl, rfl, by omega, by omega, h256, hwas, hout, by rw [hout, sealB_len8]; exact hlt, ?_, has⟩
        intro i
        rw [hout]
        rcases Nat.lt_or_ge i 2016 with h1 | h1
        · rw [setN_seal seed hlt h1, bitB_turns bs p m i (by omega)]
          by_cases hin : p ≤ i ∧ i < p + m
          · rw [if_pos hin, decide_eq_true hin]
            have := hwas i hin.1 hin.2
            rw [setN_256 h256 h1] at this
            rw [this]; cases on <;> rfl
          · rw [if_neg hin, decide_eq_false hin, Bool.xor_false, setN_256 h256 h1]
        · rw [setN_far _ _ h1, if_neg (by omega), setN_far _ _ h1]
theorem turnE_ok {bs : List UInt8} {n : Int} {p m : Nat} {on : Bool} {seed : BitVec 32} (hck : chkE bs n seed = 0) (hm : 1 ≤ m) (hn : (p : Int) + m ≤ n) (h : ∀ i, p ≤ i → i < p + m → setN bs i = !on) : turnE bs n p m on seed = 0 := by
  have hbad : turnBad n (p : Int) (m : Int) = false := by
    simp only [turnBad, Bool.or_eq_false_iff, decide_eq_false_iff_not]; omega
  have hhit : turnHit bs p m on = false := by
    unfold turnHit
    rw [List.any_eq_false]
    intro i hi
    rw [List.mem_range] at hi
    rw [h (p + i) (by omega) (by omega)]
    cases on <;> simp
  rw [turnE, if_neg (by rw [hck]; simp), hbad, if_neg (by simp), Int.toNat_natCast, Int.toNat_natCast, hhit]; rfl
theorem chk_turned {bs : List UInt8} {n f c : Int} {on : Bool} {seed : BitVec 32} {p m : Nat} (h : Turned bs n f c on seed p m) : chkE (turnB bs n f c on seed) n seed = 0 := by
  rw [chkE, if_neg (by have := h.hn; omega), if_pos]
  refine ⟨?_, allSet_true fun i h1 h2 => ?_⟩
  · rw [h.olen, h.out, sealed_seal8 seed _ (by rw [turns_length, h.len]; omega)]; rfl
  · rw [h.now, if_neg (by have := h.hn; omega)]
    exact allSet_spec h.all h1
theorem zc_set {s t : Nat → Bool} {p m : Nat} {on : Bool} (hs : ∀ i, p ≤ i → i < p + m → s i = !on) (ht : ∀ i, t i = if p ≤ i ∧ i < p + m then on else s i) : ∀ n, (zc t n : Int) = zc s n + (if on then -1 else 1) * (min n (p + m) - min n p : Nat)
  | 0 => by simp [zc]
  | n + 1 => by
    have ih := zc_set hs ht n
    simp only [zc]
    rw [ht n]
    by_cases hin : p ≤ n ∧ n < p + m
    · rw [if_pos hin, hs n hin.1 hin.2]
      have e : min (n + 1) (p + m) - min (n + 1) p = min n (p + m) - min n p + 1 := by omega
      rw [e]
      cases on <;> simp <;> simp at ih <;> omega
    · rw [if_neg hin]
      have e : min (n + 1) (p + m) - min (n + 1) p = min n (p + m) - min n p := by omega
      rw [e]
      push_cast
      omega
theorem zc_turned {bs : List UInt8} {n f c : Int} {on : Bool} {seed : BitVec 32} {p m : Nat} (h : Turned bs n f c on seed p m) : zerosZ (turnB bs n f c on seed) = zerosZ bs + (if on then -1 else 1) * (m : Int) := by
  rw [zerosZ_zc, zerosZ_zc, zc_set h.was h.now 2016]
  have := h.hn
  rw [show min 2016 (p + m) - min 2016 p = m by omega]
/-! ### what is found -/
theorem upF_spec {c : List Int} : ∀ m k j, upF c m k = some j → k ≤ j ∧ j < k + m ∧ 0 < c.getD j 0
  | 0, k, j, h => by cases h
  | m + 1, k, j, h => by
    rw [upF] at h
    split at h
    · rename_i hc; injection h with h; subst h; exact ⟨Nat.le_refl _, by omega, hc⟩
    · have := upF_spec m (k + 1) j h; exact ⟨by omega, by omega, this.2.2⟩
theorem upF_no {c : List Int} : ∀ m k, upF c m k = none → ∀ j, k ≤ j → j < k + m → ¬ 0 < c.getD j 0
  | 0, k, _, j, h1, h2 => by omega
  | m + 1, k, h, j, h1, h2 => by
    rw [upF] at h
    split at h
    · cases h
    · rename_i hc
      rcases Nat.eq_or_lt_of_le h1 with rfl | h3
      · exact hc
      · exact upF_no m (k + 1) h j (by omega) (by omega)
theorem dnF_spec {c : List Int} : ∀ k j, dnF c k = some j → j < k ∧ 0 < c.getD j 0 ∧ ∀ q, j < q → q < k → ¬ 0 < c.getD q 0
  | 0, j, h => by cases h
  | k + 1, j, h => by
    rw [dnF] at h
    split at h
    · rename_i hc; injection h with h; subst h; exact ⟨by omega, hc, fun q h1 h2 => by omega⟩
    · rename_i hc
      obtain ⟨h1, h2, h3⟩ := dnF_spec k j h
      exact ⟨by omega, h2, fun q h4 h5 => by
        rcases Nat.lt_or_ge q k with h6 | h6
        · exact h3 q h4 h6
        · obtain rfl : q = k := by omega
          exact hc⟩
theorem dnF_no {c : List Int} : ∀ k, dnF c k = none → ∀ j, j < k → ¬ 0 < c.getD j 0
  | 0, _, j, h => by omega
  | k + 1, h, j, h1 => by
    rw [dnF] at h
    split at h
    · cases h
    · rename_i hc
      rcases Nat.lt_or_ge j k with h6 | h6
      · exact dnF_no k h j h6
      · obtain rfl : j = k := by omega
        exact hc
theorem dnF_is {c : List Int} {k j : Nat} (h1 : j < k) (h2 : 0 < c.getD j 0) (h3 : ∀ q, j < q → q < k → ¬ 0 < c.getD q 0) : dnF c k = some j := by
  cases h : dnF c k with
  | none => exact absurd h2 (dnF_no k h j h1)
  | some q =>
    obtain ⟨a, b, d⟩ := dnF_spec k q h
    rcases Nat.lt_trichotomy q j with h4 | rfl | h4
    · exact absurd h2 (d j h4 h1)
    · rfl
    · exact absurd b (h3 q h4 a)
theorem runF_spec (bs : List UInt8) (g : Int) : ∀ (m n : Nat), (∀ z, g ≤ z → z < g + (n : Int) → setZ bs z = false) →
    n ≤ runF bs g m n ∧ runF bs g m n ≤ n + m ∧ (∀ z, g ≤ z → z < g + (runF bs g m n : Int) → setZ bs z = false) ∧ (runF bs g m n = n + m ∨ setZ bs (g + (runF bs g m n : Int)) = true)
  | 0, n, h => ⟨Nat.le_refl _, Nat.le_refl _, h, .inl rfl⟩
  | m + 1, n, h => by
    rw [runF]
    split
    · rename_i hs; exact ⟨Nat.le_refl _, by omega, h, .inr hs⟩
    · rename_i hs
      obtain ⟨h1, h2, h3, h4⟩ := runF_spec bs g m (n + 1) (fun z hz1 hz2 => by
        rcases Int.lt_or_le z (g + n) with h5 | h5
        · exact h z hz1 h5
        · obtain rfl : z = g + n := by push_cast at hz2; omega
          cases hq : setZ bs (g + n)
          · rfl
          · exact absurd hq hs)
      exact ⟨by omega, by omega, h3, by rcases h4 with h4 | h4; exact .inl (by omega); exact .inr h4⟩
theorem setZ_high {bs : List UInt8} {z : Int} (h : 2016 ≤ z) : setZ bs z = true := by
  cases hs : setZ bs z
  · have := setZ_low hs; omega
  · rfl
/-- The run of free bits from the goal on. -/
theorem runN_spec {bs : List UInt8} {goal want : Int} (hw : 1 ≤ want) : (runN bs goal want : Int) ≤ want ∧ (∀ z, goal ≤ z → z < goal + (runN bs goal want : Int) → setZ bs z = false) ∧ (0 ≤ goal → (runN bs goal want : Int) = want ∨ setZ bs (goal + (runN bs goal want : Int)) = true) := by
  unfold runN
  split
  · rename_i h0
    obtain ⟨h1, h2, h3, h4⟩ := runF_spec bs goal (min want 2017).toNat 0 (fun z h1 h2 => by omega)
    refine ⟨by omega, h3, fun _ => ?_⟩
    rcases h4 with h4 | h4
    · left
      rcases Int.lt_or_le 2017 want with h5 | h5
      · exfalso
        have := h3 (goal + 2016) (by omega) (by omega)
        rw [setZ_high (by omega)] at this; cases this
      · omega
    · exact .inr h4
  · refine ⟨by omega, fun z h1 h2 => ?_, fun h => by omega⟩
    exfalso
    have : ((0 : Nat) : Int) = 0 := rfl
    omega
theorem bo_free {bs : List UInt8} {k : Nat} (hk : k ≤ 10) (h : 0 < (bo (setN bs)).2.getD k 0) : ∃ p : Nat, (bo (setN bs)).1.getD k 0 = p ∧ fr (setN bs) p k := by
  have hg := bo_good (setN bs) (setN_far bs 2016 (Nat.le_refl _))
  rw [hg.c k hk] at h
  rw [hg.f k hk]
  cases hf : fst? (setN bs) k 2017 with
  | none => rw [(fst_none 2017).1 hf] at h; omega
  | some p => exact ⟨p, rfl, (fst_some 2017 p hf).1.2.2.1⟩
theorem setZ_of_nat {bs : List UInt8} {z : Int} (h : 0 ≤ z) : setZ bs z = setN bs z.toNat := by
  obtain ⟨j, rfl⟩ := Int.eq_ofNat_of_zero_le h
  exact setZ_nat bs j
theorem find_found {bs : List UInt8} {goal want i n : Int} (h : findX bs goal want = (i, n, true)) : 0 ≤ i ∧ 1 ≤ n ∧ n ≤ want ∧ ∀ z, i ≤ z → z < i + n → setZ bs z = false := by
  unfold findX at h
  split at h
  · cases h
  · rename_i hw
    obtain ⟨r1, r2, _⟩ := runN_spec (bs := bs) (goal := goal) (want := want) (by omega)
    split at h
    · rename_i hr
      injection h with h1 h2
      injection h2 with h2 h3
      subst h1 h2
      exact ⟨(setZ_low (r2 goal (by omega) (by omega))).1, by omega, r1, r2⟩
    · have hL := leastOf_le want
      unfold findC at h
      split at h
      · rename_i k hu
        obtain ⟨u1, u2, u3⟩ := upF_spec _ _ _ hu
        obtain ⟨p, hp, hf⟩ := bo_free (by omega) u3
        injection h with h1 h2
        injection h2 with h2 h3
        rw [hp] at h1
        subst h1 h2
        have hge := least_ge (want := want)
        have hpk : (2 : Nat) ^ leastOf want ≤ 2 ^ k := Nat.pow_le_pow_right (by omega) u1
        exact ⟨by omega, by omega, by omega, fun z h1 h2 => by rw [setZ_of_nat (by omega)]; exact hf _ (by omega) (by omega)⟩
      · split at h
        · rename_i k hd
          obtain ⟨d1, d2, d3⟩ := dnF_spec _ _ hd
          obtain ⟨p, hp, hf⟩ := bo_free (by omega) d2
          injection h with h1 h2
          injection h2 with h2 h3
          rw [hp] at h1
          subst h1 h2
          have hlt := least_lt d1
          have hpp := pow_pos2 k
          exact ⟨by omega, by omega, by omega, fun z h1 h2 => by rw [setZ_of_nat (by omega)]; exact hf _ (by omega) (by omega)⟩
        · cases h
theorem sumC_none {s : Nat → Bool} {a : Nat} : ∀ n, (∀ k, k < n → cnt s k a = 0) → sumC s a n = 0
  | 0, _ => rfl
  | n + 1, h => by
    simp only [sumC]
    rw [sumC_none n (fun k hk => h k (by omega)), h n (by omega), Nat.zero_mul]
theorem no_buds {bs : List UInt8} (h : ∀ k, k ≤ 10 → ¬ 0 < (bo (setN bs)).2.getD k 0) : zc (setN bs) 2016 = 0 := by
  have hg := bo_good (setN bs) (setN_far bs 2016 (Nat.le_refl _))
  refine (sum_all (setN bs) (setN_far bs 2016 (Nat.le_refl _))).symm.trans (sumC_none 11 fun k hk => ?_)
  have h1 := h k (by omega)
  rw [hg.c k (by omega)] at h1
  omega
theorem find_none {bs : List UInt8} {goal want i n : Int} (h : findX bs goal want = (i, n, false)) : i = 0 ∧ n = 0 ∧ (want < 1 ∨ zc (setN bs) 2016 = 0) := by
  unfold findX at h
  split at h
  · rename_i hw
    injection h with h1 h2
    injection h2 with h2 h3
    exact ⟨h1.symm, h2.symm, .inl hw⟩
  · split at h
    · cases h
    · have hL := leastOf_le want
      unfold findC at h
      split at h
      · injection h with h1 h2
        injection h2 with h2 h3
        cases h3
      · rename_i hu
        split at h
        · injection h with h1 h2
          injection h2 with h2 h3
          cases h3
        · rename_i hd
          injection h with h1 h2
          injection h2 with h2 h3
          refine ⟨h1.symm, h2.symm, .inr (no_buds fun k hk => ?_)⟩
          rcases Nat.lt_or_ge k (leastOf want) with h4 | h4
          · exact dnF_no _ hd k h4
          · exact upF_no _ _ hu k h4 (by omega)
/-- The greatest chunk's length. -/
def grF (c : List Int) : Nat → Int
  | 0 => 0
  | k + 1 => if 0 < c.getD k 0 then ((2 ^ k : Nat) : Int) else grF c k
theorem grF_is {c : List Int} : ∀ k j, dnF c k = some j → grF c k = ((2 ^ j : Nat) : Int)
  | 0, j, h => by cases h
  | k + 1, j, h => by
    rw [dnF] at h
    rw [grF]
    split at h
    · rename_i hc; injection h with h; subst h; rw [if_pos hc]
    · rename_i hc; rw [if_neg hc]; exact grF_is k j h
theorem room {bs : List UInt8} {want : Int} (hw : 1 ≤ want) (hz : zc (setN bs) 2016 ≠ 0) : ∃ i, findX bs (-1) want = (i, min want (grF (bo (setN bs)).2 11), true) := by
  have hL := leastOf_le want
  rw [findX, if_neg (by omega), runN_set hw (.inl (by omega)), if_neg (by omega), findC]
  split
  · rename_i k hu
    obtain ⟨u1, u2, u3⟩ := upF_spec _ _ _ hu
    obtain ⟨j, hj⟩ : ∃ j, dnF (bo (setN bs)).2 11 = some j := by
      cases h : dnF (bo (setN bs)).2 11 with
      | none => exact absurd u3 (dnF_no _ h k (by omega))
      | some j => exact ⟨j, rfl⟩
    obtain ⟨d1, d2, d3⟩ := dnF_spec _ _ hj
    have hkj : k ≤ j := by
      rcases Nat.lt_or_ge j k with h | h
      · exact absurd u3 (d3 k h (by omega))
      · exact h
    refine ⟨(bo (setN bs)).1.getD k 0, ?_⟩
    rw [grF_is _ _ hj]
    have hge := least_ge (want := want)
    have h1 : (2 : Nat) ^ leastOf want ≤ 2 ^ j := Nat.pow_le_pow_right (by omega) (by omega)
    have h2 : (2 : Nat) ^ j ≤ 2 ^ 10 := Nat.pow_le_pow_right (by omega) (by omega)
    rw [show min want 1024 = min want ((2 ^ j : Nat) : Int) by omega]
  · rename_i hu
    split
    · rename_i k hd
      obtain ⟨d1, d2, d3⟩ := dnF_spec _ _ hd
      have hj : dnF (bo (setN bs)).2 11 = some k := dnF_is (by omega) d2 fun q h1 h2 => by
        rcases Nat.lt_or_ge q (leastOf want) with h4 | h4
        · exact d3 q h1 h4
        · exact upF_no _ _ hu q h4 (by omega)
      refine ⟨(bo (setN bs)).1.getD k 0, ?_⟩
      rw [grF_is _ _ hj]
      have hlt := least_lt d1
      rw [show min want ((2 ^ k : Nat) : Int) = ((2 ^ k : Nat) : Int) by omega]
    · rename_i hd
      exfalso
      apply hz
      exact no_buds fun k hk => by
        rcases Nat.lt_or_ge k (leastOf want) with h4 | h4
        · exact dnF_no _ hd k h4
        · exact upF_no _ _ hu k h4 (by omega)
end Go.Proofs.YtcmpkcmfhfajpaaDoor.Bits

namespace Go.Proofs.YtcmpkcmfhfajpaaDoor.Bits
open Go.RowKit Go.Proofs.YtcmpkcmfhfajpaaDoor.Wire
set_option maxHeartbeats 16000000
set_option maxRecDepth 100000
set_option linter.unusedVariables false
set_option linter.unusedSimpArgs false

def runG (s : Int → Bool) (g : Int) : Nat → Nat → Nat
  | 0, n => n
  | m + 1, n => if s (g + n) = true then n else runG s g m (n + 1)
theorem runF_G {bs : List UInt8} {s : Int → Bool} (h : ∀ z, setZ bs z = s z) (g : Int) : ∀ m n, runF bs g m n = runG s g m n
  | 0, _ => rfl
  | m + 1, n => by rw [runF, runG, h, runF_G h g m (n + 1)]
def s1 (i : Nat) : Bool := decide (10 ≤ i)
def s2 (i : Nat) : Bool := if 3 ≤ i ∧ i < 3 + 1 then true else decide (10 ≤ i)
theorem e1 : (bo s1).2.getD 3 0 = 1 ∧ (bo s1).2.getD 1 0 = 1 ∧ (bo s1).2.getD 0 0 = 0 := by decide +kernel
theorem e2 : findC (bo s1) 3 = (0, 3, true) := by decide +kernel
theorem e3 : runG (fun z => decide (z < 0) || s1 z.toNat) 8 5 0 = 2 := by decide +kernel
theorem e4 : findC (bo s2) 2 = (0, 2, true) := by decide +kernel
theorem e5 : zc s2 2016 = 9 := by decide +kernel
theorem e6 : runG (fun z => decide (z < 0) || s2 z.toNat) 3 2 0 = 0 := by decide +kernel
def B1 : List UInt8 := newB 10 7#32
def B2 : List UInt8 := turnB B1 10 3 1 true 7#32
theorem n1 : setN B1 = s1 := funext fun i => setN_new (n := 10) 7#32 (by omega) i
theorem c1 : chkE B1 10 7#32 = 0 := chk_new (n := 10) 7#32 (by omega)
theorem t1 : turnE B1 10 3 1 true 7#32 = 0 := turnE_ok (p := 3) (m := 1) c1 (by omega) (by omega) fun i h1 h2 => by
  rw [n1, s1, decide_eq_false (by omega)]; rfl
theorem T2 : Turned B1 10 3 1 true 7#32 3 1 := by
  obtain ⟨p, m, h⟩ := turned_of t1
  have h1 := h.hf
  have h2 := h.hc
  obtain rfl : p = 3 := by omega
  obtain rfl : m = 1 := by omega
  exact h
theorem n2 : setN B2 = s2 := funext fun i => by
  have := T2.now i
  rw [n1] at this
  exact this
theorem l1 : B1.length = 256 := T2.len
theorem l2 : B2.length = 256 := T2.olen
theorem c2 : chkE B2 10 7#32 = 0 := chk_turned T2
theorem f1 : findX B1 (-1) 3 = (0, 3, true) := by
  rw [findX, if_neg (by omega), runN_set (by omega) (.inl (by omega)), if_neg (by omega), n1, e2]
theorem f2 : findX B1 8 5 = (8, 2, true) := by
  have h : runN B1 8 5 = 2 := by
    rw [runN, if_pos (by omega), runF_G (s := fun z => decide (z < 0) || s1 z.toNat) (fun z => by rw [setZ, n1])]
    exact e3
  rw [findX, if_neg (by omega), h, if_pos (by omega)]; rfl
theorem f3 : findX B2 3 2 = (0, 2, true) := by
  have h : runN B2 3 2 = 0 := by
    rw [runN, if_pos (by omega), runF_G (s := fun z => decide (z < 0) || s2 z.toNat) (fun z => by rw [setZ, n2])]
    exact e6
  rw [findX, if_neg (by omega), h, if_neg (by omega), n2, e4]
theorem t2 : turnE B2 10 3 1 true 7#32 = 117 := by
  have hh : turnHit B2 3 1 true = true := by
    unfold turnHit
    rw [List.any_eq_true]
    exact ⟨0, by simp, by rw [n2]; rfl⟩
  rw [turnE, if_neg (by rw [c2]; simp), if_neg (by decide)]
  rw [show (3 : Int).toNat = 3 from rfl, show (1 : Int).toNat = 1 from rfl, hh]; rfl
theorem t3 : turnE B2 10 9 2 true 7#32 = 22 := by
  rw [turnE, if_neg (by rw [c2]; simp), if_pos (by decide)]
theorem z2 : zerosZ B2 = 9 := by rw [zerosZ_zc, n2, e5]; rfl
attribute [irreducible] B1 B2
theorem o1 : ∃ O : List Int, (bo (setN B1)).2 = O ∧ O.length = 11 ∧ O.getD 3 0 = 1 ∧ O.getD 1 0 = 1 ∧ O.getD 0 0 = 0 := by
  refine ⟨_, rfl, (bo_good (setN B1) (setN_far B1 2016 (Nat.le_refl _))).l2, ?_⟩
  rw [n1]; exact e1
theorem awake_any (w : World) (hT : Tab w) : Calls Tryd.prog 10 #[] w fun e w' => e = .returned (.bool true) ∧ Below w.heap.size w w' := by
  obtain ⟨O, hO, hOl, hO3, hO1, hO0⟩ := o1
  have h7 : ((7#32 : BitVec 32).toNat : Int) = 7 := rfl
  have HN := Lib.hid (new_any 10 7#32 w)
  rw [h7, show newE 10 = 0 from rfl, show newB 10 7#32 = B1 by unfold B1; rfl] at HN
  have HT := Lib.hid hT
  have HO := Lib.hid hO
  have HL1 := Lib.hid l1
  have HL2 := Lib.hid l2
  clear hT hO
  go_enter Tryd.func10, Tryd.ntmps10
  go_wp2_with fail
  refine HN.out.mono ?_
  rintro e w1 ⟨v1, rfl, hb1, ho1⟩
  rw [HL1.out] at ho1
  obtain ⟨g1, c1', cs1, rfl, hg1, _, hc1, hm1, _⟩ := own_form ho1 (by omega)
  unfold maxLen at hm1
  have BY1 := Lib.hid (BytesAt.of_own ho1)
  have B1' := Lib.hid hb1
  have T1 := Lib.hid (HT.out.below hb1)
  clear hb1 ho1 HN
  go_wp2_with fail
  refine (orders_any (some ⟨g1, 0, none⟩) 256 c1' B1 w1 BY1.out T1.out).mono ?_
  rintro e w2 ⟨rfl, hb2⟩
  rw [HO.out]
  have B2' := Lib.hid (below_all B1'.out B1'.out.size hb2)
  have BY2 := Lib.hid (BY1.out.below hb2)
  have T2' := Lib.hid (T1.out.below hb2)
  clear hb2
  have hOs : (ints O).toArray.size = 11 := by simp [ints, hOl]
  have k3 : (ints O).toArray[3]? = some (.int .i64 1) := by rw [cells_get (by omega), hO3]
  have k1 : (ints O).toArray[1]? = some (.int .i64 1) := by rw [cells_get (by omega), hO1]
  have k0 : (ints O).toArray[0]? = some (.int .i64 0) := by rw [cells_get (by omega), hO0]
  have HON := Lib.hid (cells_one O)
  obtain ⟨cs, hcs⟩ : ∃ cs, (ints O).toArray = cs := ⟨_, rfl⟩
  rw [hcs] at hOs k3 k1 k0 HON ⊢
  have HIN := Lib.hid (show (Tryd.prog.info? 27).map (·.size) = some cs.size by rw [hOs]; kernel_rfl)
  have K2 := Lib.hid (Blk.new w2 27 #[.int .i64 0, .int .i64 0, .int .i64 0, .int .i64 0, .int .i64 0, .int .i64 0, .int .i64 0, .int .i64 0, .int .i64 0, .int .i64 0, .int .i64 0])
  obtain ⟨w3, hw3⟩ : ∃ w3, (w2.alloc (.cells #[.int .i64 0, .int .i64 0, .int .i64 0, .int .i64 0, .int .i64 0, .int .i64 0, .int .i64 0, .int .i64 0, .int .i64 0, .int .i64 0, .int .i64 0] 27)).setRow w2.heap.size cs = w3 := ⟨_, rfl⟩
  have K3 := Lib.hid (show Blk w3 w2.heap.size 27 cs by rw [← hw3]; exact setRow_heap _ w2.heap.size _ cs 27 (0, 0) K2.out)
  have B23 := Lib.hid (show Below w2.heap.size w2 w3 from hw3 ▸ ((Below.refl w2.heap.size w2).alloc (Nat.le_refl _) _).trans ⟨rfl, rfl, rfl, by simp [World.setRow], fun k hk => setRow_other _ w2.heap.size k cs (by omega)⟩)
  have B3 := Lib.hid (below_all B2'.out B2'.out.size B23.out)
  have BY3 := Lib.hid (BY2.out.below B23.out)
  have T3 := Lib.hid (T2'.out.below B23.out)
  have q3 := Lib.hid k3
  have q1 := Lib.hid k1
  have q0 := Lib.hid k0
  have HW3 := Lib.hid hw3
  have HSZ := Lib.hid hOs
  clear hw3 hcs k3 k1 k0 hOs
  go_wp2_with (first
    | (refine wpList_store_row rfl 27 (.tmp 3) (.tmp 24) rfl w2.heap.size cs rfl rfl 27 _ K2.out HIN.out (by rw [HSZ.out]; rfl) HON.out ?_; rw [HW3.out])
    | fail)
  refine (find_any (some ⟨g1, 0, none⟩) 256 c1' Bits.B1 (-1) 3 w3 BY3.out T3.out (by omega)).mono ?_
  rintro e w4 ⟨rfl, hb4⟩
  rw [f1]
  have B4 := Lib.hid (below_all B3.out B3.out.size hb4)
  have BY4 := Lib.hid (BY3.out.below hb4)
  have T4 := Lib.hid (T3.out.below hb4)
  have K4 := Lib.hid (K3.out.belowAll hb4)
  clear hb4
  go_wp2_with fail
  refine (find_any (some ⟨g1, 0, none⟩) 256 c1' Bits.B1 8 5 w4 BY4.out T4.out (by omega)).mono ?_
  rintro e w5 ⟨rfl, hb5⟩
  rw [f2]
  have B5 := Lib.hid (below_all B4.out B4.out.size hb5)
  have BY5 := Lib.hid (BY4.out.below hb5)
  have T5 := Lib.hid (T4.out.below hb5)
  have K5 := Lib.hid (K4.out.belowAll hb5)
  clear hb5
  go_wp2_with fail
  have HT5 := Lib.hid (turn_any (some ⟨g1, 0, none⟩) 256 c1' 10 3 1 true 7#32 Bits.B1 w5 hc1 (by omega) (fun e => by cases e) BY5.out)
  rw [t1, h7, show turnB Bits.B1 10 3 1 true 7#32 = Bits.B2 by unfold Bits.B2; rfl, HL2.out] at HT5
  refine HT5.out.mono ?_
  rintro e w6 ⟨v6, rfl, hb6, ho6⟩
  obtain ⟨g2, c2', cs2, rfl, hg2, _, hc2, hm2, _⟩ := own_form ho6 (by omega)
  unfold maxLen at hm2
  have B6 := Lib.hid (below_all B5.out B5.out.size hb6)
  have CY6 := Lib.hid (BytesAt.of_own ho6)
  have T6 := Lib.hid (T5.out.below hb6)
  have K6 := Lib.hid (K5.out.belowAll hb6)
  clear hb6 ho6 HT5
  go_wp2_with fail
  refine (find_any (some ⟨g2, 0, none⟩) 256 c2' Bits.B2 3 2 w6 CY6.out T6.out (by omega)).mono ?_
  rintro e w7 ⟨rfl, hb7⟩
  rw [f3]
  have B7 := Lib.hid (below_all B6.out B6.out.size hb7)
  have CY7 := Lib.hid (CY6.out.below hb7)
  have K7 := Lib.hid (K6.out.belowAll hb7)
  clear hb7
  go_wp2_with fail
  have HT7 := Lib.hid (turn_any (some ⟨g2, 0, none⟩) 256 c2' 10 3 1 true 7#32 Bits.B2 w7 hc2 (by omega) (fun e => by cases e) CY7.out)
  rw [t2, h7] at HT7
  refine HT7.out.mono ?_
  rintro e w8 ⟨v8, rfl, hb8, _⟩
  have B8 := Lib.hid (below_all B7.out B7.out.size hb8)
  have CY8 := Lib.hid (CY7.out.below hb8)
  have K8 := Lib.hid (K7.out.belowAll hb8)
  clear hb8 HT7
  go_wp2_with fail
  have HT8 := Lib.hid (turn_any (some ⟨g2, 0, none⟩) 256 c2' 10 9 2 true 7#32 Bits.B2 w8 hc2 (by omega) (fun e => by cases e) CY8.out)
  rw [t3, h7] at HT8
  refine HT8.out.mono ?_
  rintro e w9 ⟨v9, rfl, hb9, _⟩
  have B9 := Lib.hid (below_all B8.out B8.out.size hb9)
  have CY9 := Lib.hid (CY8.out.below hb9)
  have K9 := Lib.hid (K8.out.belowAll hb9)
  have x3 : w9.cell? ⟨w2.heap.size, 3, none⟩ = some (.int .i64 1) := (K9.out.cell 3).trans q3.out
  have x1 : w9.cell? ⟨w2.heap.size, 1, none⟩ = some (.int .i64 1) := (K9.out.cell 1).trans q1.out
  have x0 : w9.cell? ⟨w2.heap.size, 0, none⟩ = some (.int .i64 0) := (K9.out.cell 0).trans q0.out
  clear hb9 HT8
  have HZ := Lib.hid (zeros_any (some ⟨g2, 0, none⟩) 256 c2' Bits.B2 w9 hc2 (by omega) (fun e => by cases e) CY9.out)
  rw [z2] at HZ
  have HC := Lib.hid (check_any (some ⟨g2, 0, none⟩) 256 c2' 10 7#32 Bits.B2 w9 hc2 (by omega) CY9.out)
  rw [c2, h7] at HC
  go_wp2_with fail
  refine HZ.out.mono ?_
  rintro e w' ⟨rfl, rfl⟩
  go_wp2_with fail
  refine HC.out.mono ?_
  rintro e w10 ⟨rfl, hb10⟩
  have B10 := Lib.hid (below_all B9.out B9.out.size hb10)
  clear hb10
  go_wp2_with fail
  go_ret
  exact ⟨rfl, B10.out⟩
end Go.Proofs.YtcmpkcmfhfajpaaDoor.Bits

namespace Go.Proofs.YtcmpkcmfhfajpaaDoor.Bits
open Go.ChangeShapes Go.WideShapes Go.ChangeAt Go.WideMaps Go.WideElems Go.RowKit
set_option maxRecDepth 100000
set_option linter.unusedVariables false

abbrev laidL : List (String × DataW Unit) := [("math/bits.deBruijn32tab", Rows.laid_math_bits_deBruijn32tab), ("math/bits.deBruijn64tab", Rows.laid_math_bits_deBruijn64tab)]
theorem g32 : Tryd.prog.globalNamed "math/bits.deBruijn32tab" = some 0 := by kernel_rfl
theorem g64 : Tryd.prog.globalNamed "math/bits.deBruijn64tab" = some 1 := by kernel_rfl
theorem ty64 : (Tryd.prog.globals[1]?).map (·.type) = some 75 := by kernel_rfl
theorem laidTab : (Rows.laid_math_bits_deBruijn64tab (H := Unit)) = .agg (Lib.deBruijn64tab.map fun (v : Nat) => .lit (.int .u8 (v : Int))) := by kernel_rfl
theorem cells1 : Tryd.prog.cellsOf 5 = 1 := by kernel_rfl
theorem tab_of_laid {W : World} (h : laidMetH Tryd.prog laidL W) : Tab W := by
  rw [MakeChecks.laidMetH_plain _ _ _ (by kernel_rfl)] at h
  obtain ⟨ps, ⟨g0, t0, cs0, f0, p0, q0, hg0, ht0, hv0, hd0, ⟨g1, t1, cs1, f1, p1, q1, hg1, ht1, hv1, hd1, _, _⟩, _⟩, _, _⟩ := h
  obtain rfl := Option.some.inj (g64.symm.trans hg1)
  obtain rfl := Option.some.inj (ty64.symm.trans ht1)
  obtain ⟨xs, m1, rfl, hx1, hlen, hn3, hel⟩ := DataW.trod_array Tryd.underlying75 hd1
  simp only [Prod.mk.injEq] at hx1
  have hx := hx1.1
  rw [laidTab] at hx
  injection hx with hx
  intro j hj
  have hj' : j < xs.length := by omega
  have he := hel j hj
  rw [cells1, Nat.mul_one, List.getElem?_eq_getElem hj'] at he
  obtain ⟨n, hc, hv, _⟩ := DataW.trod_int Tryd.underlying5 he
  have h1 : (xs.map (·.1))[j]? = some (.lit (.int .u8 n)) := by rw [List.getElem?_map, List.getElem?_eq_getElem hj', hv]; rfl
  rw [← hx, List.getElem?_map] at h1
  have hn : ((Lib.deBruijn64tab.getD j 0 : Nat) : Int) = n := by
    rw [List.getD_eq_getElem?_getD]
    cases hq : Lib.deBruijn64tab[j]? with
    | none => rw [hq] at h1; cases h1
    | some z =>
      rw [hq] at h1
      injection h1 with h1
      injection h1 with h1
      injection h1 with _ h1
  have hcell := World.var?_cell hg1 hv1 j
  have hcs : cs1[j]? = some (.int .u8 n) := by
    have : (cs1.toList.drop j).take 1 = [.int .u8 n] := hc
    rw [← Array.getElem?_toList]
    have h2 : ((cs1.toList.drop j).take 1)[0]? = some (.int .u8 n) := by rw [this]; rfl
    rwa [List.getElem?_take, if_pos (by omega), List.getElem?_drop, Nat.add_zero] at h2
  rw [hcs] at hcell
  refine ⟨by rw [hn]; exact hcell, ?_⟩
  have := hcell
  rcases Nat.lt_or_ge 1 W.heap.size with h3 | h3
  · exact h3
  · exfalso
    simp only [World.cell?, Array.getElem?_eq_none h3] at this
    cases this
end Go.Proofs.YtcmpkcmfhfajpaaDoor.Bits
