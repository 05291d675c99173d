
/-
  PLAIN: layer 1 (wire): there and back; a turned byte.
-/
import Derived.Test.YtafonjnanfekkaaLOnly
namespace Go.Proofs.Ytafonjnanfekkaa.Wire
open Go.RowKit
set_option linter.unusedVariables false
set_option linter.unusedSimpArgs false

def clampW (z : Int) : Int := max 0 (min z 9)
def csum (ws : List Int) : Int := (ws.map clampW).sum
theorem clamp_bounds (z : Int) : 0 ≤ clampW z ∧ clampW z ≤ 9 := by unfold clampW; omega
theorem csum_succ {ws : List Int} {k : Nat} {z : Int} (hz : ws[k]? = some z) : csum (ws.take (k + 1)) = csum (ws.take k) + clampW z := by
  rw [List.take_add_one, hz]; simp [csum]
theorem csum_pos (ws : List Int) : 0 ≤ csum ws := by
  induction ws with
  | nil => simp [csum]
  | cons z l ih =>
    have := clamp_bounds z
    simp only [csum, List.map_cons, List.sum_cons] at ih ⊢; omega
theorem csum_wok {ws : List Int} (h : wok ws = true) : csum ws = ws.sum := by
  induction ws with
  | nil => rfl
  | cons z l ih =>
    simp only [wok, List.all_cons, Bool.and_eq_true] at h
    obtain ⟨h1, h2⟩ := wok1_true h.1
    have := ih h.2
    simp only [csum, List.map_cons, List.sum_cons] at this ⊢
    have : clampW z = z := by unfold clampW; omega
    omega

theorem unpacks_pre : ∀ (l : List Nat) (ws : List Int) (t : List UInt8), l.length = ws.length → wok ws = true → (∀ (k x : Nat) (z : Int), l[k]? = some x → ws[k]? = some z → x < 256 ^ z.toNat) →
    unpacks (pre l ws l.length ++ t) ws = l
  | [], [], t, _, _, _ => rfl
  | x :: l, z :: ws, t, h, hw, hk => by
    simp only [wok, List.all_cons, Bool.and_eq_true] at hw
    have h0 := hk 0 x z rfl rfl
    have ih := unpacks_pre l ws t (by simpa using h) hw.2 (fun k y v hy hv => hk (k + 1) y v (by simpa using hy) (by simpa using hv))
    simp only [List.length_cons, pre, unpacks, List.append_assoc]
    rw [List.take_append_of_le_length (by rw [le_length]; exact Nat.le_refl _), List.take_of_length_le (by rw [le_length]; exact Nat.le_refl _), num_le _ _ h0]
    rw [List.drop_append_of_le_length (by rw [le_length]; exact Nat.le_refl _), List.drop_of_length_le (by rw [le_length]; exact Nat.le_refl _), List.nil_append, ih]

/-- Packed with no room to spare: unpacked it is the same. -/
theorem back_pack {l : List Nat} {ws : List Int} {S : Int} (h : packE l ws S = 0) (hS : S = ws.sum) :
    (packB l ws S).length = S.toNat ∧ umay (packB l ws S) ws = true ∧ unpackX (packB l ws S) ws = l ∧ wok ws = true ∧ S ≤ 4096 ∧ 0 ≤ S := by
  cases hm : pmay l ws S
  · simp [packE, hm] at h
  · have hm' := hm
    simp only [pmay, Bool.and_eq_true, decide_eq_true_eq] at hm'
    obtain ⟨m1, m2, m3, m4⟩ := hm'
    have hsum := wsum_le ws m2
    rcases first_big l ws m1 with hbig | ⟨j, x, z, j1, j2, j3, j4⟩
    · have hp := packs_some l ws m1 hbig
      have hpl := pre_length l ws l.length m1 m2
      rw [m1, List.take_length, ← m1] at hpl
      have hB : packB l ws S = pre l ws l.length := by
        simp only [packB, hm, hp, if_true]
        rw [show S.toNat - (pre l ws l.length).length = 0 by omega]; simp
      have hu : umay (packB l ws S) ws = true := by rw [hB]; simp [umay, m2]; omega
      refine ⟨by rw [hB]; omega, hu, ?_, m2, m4, by omega⟩
      rw [unpackX, if_pos hu, hB]
      have := unpacks_pre l ws [] m1 m2 hbig
      rwa [List.append_nil] at this
    · have hp := packs_none l ws j x z j1 j2 j3
      simp [packE, hm, hp] at h
theorem packE_cases (l : List Nat) (ws : List Int) (S : Int) : packE l ws S = 0 ∧ wok ws = true ∧ ws.sum ≤ S ∧ S ≤ 4096 ∨ (packE l ws S = 22 ∨ packE l ws S = 34) ∧ packB l ws S = [] := by
  cases hm : pmay l ws S
  · right; simp [packE, packB, hm]
  · have hm' := hm
    simp only [pmay, Bool.and_eq_true, decide_eq_true_eq] at hm'
    cases hp : packs l ws with
    | none => right; simp [packE, packB, hm, hp]
    | some bs => left; exact ⟨by simp [packE, hm, hp], hm'.2.1, hm'.2.2.1, hm'.2.2.2⟩

theorem sealB_len (seed : BitVec 32) (bs : List UInt8) : (sealB seed bs).length = bs.length := by
  unfold sealB
  split
  · rw [List.length_append, List.length_take, le_length]; omega
  · rfl
theorem sealed_seal (seed : BitVec 32) (bs : List UInt8) (h : 4 ≤ bs.length) : sealedB seed (sealB seed bs) = true := by
  have hl := sealB_len seed bs
  unfold sealedB
  rw [hl]
  have ht : (sealB seed bs).take (bs.length - 4) = bs.take (bs.length - 4) := by
    rw [sealB, if_pos h, List.take_append_of_le_length (by rw [List.length_take]; omega), List.take_of_length_le (by rw [List.length_take]; omega)]
  have hd : (sealB seed bs).drop (bs.length - 4) = le 4 (crc seed (bs.take (bs.length - 4))).toNat := by
    rw [sealB, if_pos h, List.drop_append_of_le_length (by rw [List.length_take]; omega), List.drop_of_length_le (by rw [List.length_take]; omega), List.nil_append]
  rw [ht, hd, num_le _ _ (show (crc seed (bs.take (bs.length - 4))).toNat < 256 ^ 4 from (crc seed _).isLt)]
  simp [h]
theorem split_at {α : Type} {xs : List α} {j : Nat} {x : α} (h : xs[j]? = some x) (y : α) : xs = xs.take j ++ x :: xs.drop (j + 1) ∧ xs.set j y = xs.take j ++ y :: xs.drop (j + 1) := by
  obtain ⟨hlt, he⟩ := List.getElem?_eq_some_iff.1 h
  refine ⟨?_, ?_⟩
  · rw [← he, List.getElem_cons_drop, List.take_append_drop]
  · rw [List.set_eq_take_append_cons_drop, if_pos hlt]
/-- A byte turned breaks a seal. -/
theorem turned_unsealed (seed : BitVec 32) (bs : List UInt8) (j : Nat) (x y : UInt8) (h : sealedB seed bs = true) (hj : bs[j]? = some x) (hxy : x ≠ y) : sealedB seed (bs.set j y) = false := by
  cases hc : sealedB seed (bs.set j y) with
  | false => rfl
  | true =>
    exfalso
    unfold sealedB at h hc
    rw [List.length_set] at hc
    simp only [Bool.and_eq_true, decide_eq_true_eq, beq_iff_eq] at h hc
    obtain ⟨h4, h⟩ := h
    obtain ⟨_, hc⟩ := hc
    by_cases hlt : j < bs.length - 4
    · rw [List.drop_set_of_lt (by omega), List.take_set] at hc
      have hx' : (bs.take (bs.length - 4))[j]? = some x := by rw [List.getElem?_take, if_pos hlt]; exact hj
      obtain ⟨e1, e2⟩ := split_at hx' y
      have heq : crc seed (bs.take (bs.length - 4)) = crc seed ((bs.take (bs.length - 4)).set j y) := BitVec.eq_of_toNat_eq (by omega)
      rw [e2] at heq
      conv at heq => lhs; rw [e1]
      exact hxy (crc_turned seed _ x y _ heq)
    · rw [List.take_set_of_le (by omega)] at hc
      have heq : num (bs.drop (bs.length - 4)) = num ((bs.set j y).drop (bs.length - 4)) := by omega
      have := num_inj (by simp) heq
      have hjj : (bs.drop (bs.length - 4))[j - (bs.length - 4)]? = some x := by rw [List.getElem?_drop, show bs.length - 4 + (j - (bs.length - 4)) = j by omega]; exact hj
      rw [this, List.getElem?_drop, show bs.length - 4 + (j - (bs.length - 4)) = j by omega, List.getElem?_set_self (List.getElem?_eq_some_iff.1 hj).1] at hjj
      injection hjj with hjj
      exact hxy hjj.symm
theorem turn_byte_nat : ∀ (x : BitVec 8) (r : Fin 8), x ≠ x ^^^ BitVec.ofNat 8 (2 ^ r.val) := by decide +kernel
/-- A byte with a bit turned. -/
theorem turn_byte (x : UInt8) (r : Nat) (hr : r < 8) : ∃ y : UInt8, bits .xor .u8 (x.toNat : Int) (2 ^ r % 256) = (y.toNat : Int) ∧ x ≠ y := by
  refine ⟨⟨x.toBitVec ^^^ BitVec.ofNat 8 (2 ^ r)⟩, ?_, fun e => turn_byte_nat x.toBitVec ⟨r, hr⟩ (congrArg UInt8.toBitVec e)⟩
  show IntKind.u8.wrap ((BitVec.ofInt 8 (x.toNat : Int) ^^^ BitVec.ofInt 8 (2 ^ r % 256)).toNat : Int) = _
  have h1 : BitVec.ofInt 8 (x.toNat : Int) = x.toBitVec := by rw [BitVec.ofInt_natCast]; exact BitVec.eq_of_toNat_eq (by rw [BitVec.toNat_ofNat]; exact Nat.mod_eq_of_lt x.toNat_lt)
  have h2 : BitVec.ofInt 8 ((2 : Int) ^ r % 256) = BitVec.ofNat 8 (2 ^ r) := by
    have : ∀ r : Fin 8, BitVec.ofInt 8 ((2 : Int) ^ r.val % 256) = BitVec.ofNat 8 (2 ^ r.val) := by decide +kernel
    exact this ⟨r, hr⟩
  rw [h1, h2]
  have h3 := (x.toBitVec ^^^ BitVec.ofNat 8 (2 ^ r)).isLt
  show IntKind.u8.wrap ((x.toBitVec ^^^ BitVec.ofNat 8 (2 ^ r)).toNat : Int) = ((x.toBitVec ^^^ BitVec.ofNat 8 (2 ^ r)).toNat : Int)
  generalize (x.toBitVec ^^^ BitVec.ofNat 8 (2 ^ r)).toNat = m at *
  rw [IntKind.wrap_u8]
  omega
theorem own_set {w : World} {base g cap n : Nat} {t : TypeId} {bs : List UInt8} (h : w.ownsRow base t 1 (.slice (some ⟨g, 0, none⟩) n cap) n (bvl bs)) (j : Nat) (y : UInt8) :
    (w.setCell ⟨g, j, none⟩ (.int .u8 (y.toNat : Int))).ownsRow base t 1 (.slice (some ⟨g, 0, none⟩) n cap) n (bvl (bs.set j y)) := by
  have := h.stored j (bval y)
  rw [bvl, List.map_set]
  exact this.1
end Go.Proofs.Ytafonjnanfekkaa.Wire
