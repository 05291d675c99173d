
/-
  PLAIN: layer 1 (wire): there and back; a turned byte.
  PLAIN: the arithmetic of layer 4 (layout): which geometries may be, where each group and each inode lies. No program in sight.
  THE WALKS of layer 4 (layout), the program's and the document's: Check, Groups, Span, Place, Fixed, InodeAt.
  THE WALKS of layer 4 (layout), the program's, second part: Groups, Span, Place, InodeAt.
  THE WALK of layout.Fixed: a loop over the groups.
  THE WALKS of the document's layer 4 (hayrickref04): within, groups, Check, Groups, Span, Place, Fixed, InodeAt.
  THE WALKS of the document's layer 4 (hayrickref04), second part: Span, Place, Fixed, InodeAt.
  THE WALKS of layer 4 (layout), blocks: numbers, widths, sealed, record.
-/
import Derived.Test.YtifamhmiibhohaaKR5N4
import Derived.RowKit
import Derived.Test.YtifamhmiibhohaaProg
import Derived.Test.YtifamhmiibhohaaKR5N1
import Derived.Test.YtifamhmiibhohaaKR5N3
import Derived.Test.YtifamhmiibhohaaKR5N2
namespace Go.Proofs.Ytifamhmiibhohaa.Wire
open Go.RowKit
set_option linter.unusedVariables false
set_option linter.unusedSimpArgs false

def clampW (z : Int) : Int := max 0 (min z 9)
def csum (ws : List Int) : Int := (ws.map clampW).sum
theorem clamp_bounds (z : Int) : 0 ≤ clampW z ∧ clampW z ≤ 9 := by unfold clampW; omega
theorem csum_succ {ws : List Int} {k : Nat} {z : Int} (hz : ws[k]? = some z) : csum (ws.take (k + 1)) = csum (ws.take k) + clampW z := by
  rw [List.take_add_one, hz]; simp [csum]
theorem csum_pos (ws : List Int) : 0 ≤ csum ws := by
  induction ws with
  | nil => simp [csum]
  | cons z l ih =>
    have := clamp_bounds z
    simp only [csum, List.map_cons, List.sum_cons] at ih ⊢; omega
theorem csum_wok {ws : List Int} (h : wok ws = true) : csum ws = ws.sum := by
  induction ws with
  | nil => rfl
  | cons z l ih =>
    simp only [wok, List.all_cons, Bool.and_eq_true] at h
    obtain ⟨h1, h2⟩ := wok1_true h.1
    have := ih h.2
    simp only [csum, List.map_cons, List.sum_cons] at this ⊢
    have : clampW z = z := by unfold clampW; omega
    omega

theorem unpacks_pre : ∀ (l : List Nat) (ws : List Int) (t : List UInt8), l.length = ws.length → wok ws = true → (∀ (k x : Nat) (z : Int), l[k]? = some x → ws[k]? = some z → x < 256 ^ z.toNat) →
    unpacks (pre l ws l.length ++ t) ws = l
  | [], [], t, _, _, _ => rfl
  | x :: l, z :: ws, t, h, hw, hk => by
    simp only [wok, List.all_cons, Bool.and_eq_true] at hw
    have h0 := hk 0 x z rfl rfl
    have ih := unpacks_pre l ws t (by simpa using h) hw.2 (fun k y v hy hv => hk (k + 1) y v (by simpa using hy) (by simpa using hv))
    simp only [List.length_cons, pre, unpacks, List.append_assoc]
    rw [List.take_append_of_le_length (by rw [le_length]; exact Nat.le_refl _), List.take_of_length_le (by rw [le_length]; exact Nat.le_refl _), num_le _ _ h0]
    rw [List.drop_append_of_le_length (by rw [le_length]; exact Nat.le_refl _), List.drop_of_length_le (by rw [le_length]; exact Nat.le_refl _), List.nil_append, ih]

/-- Packed with no room to spare: unpacked it is the same. -/
theorem back_pack {l : List Nat} {ws : List Int} {S : Int} (h : packE l ws S = 0) (hS : S = ws.sum) :
    (packB l ws S).length = S.toNat ∧ umay (packB l ws S) ws = true ∧ unpackX (packB l ws S) ws = l ∧ wok ws = true ∧ S ≤ 4096 ∧ 0 ≤ S := by
  cases hm : pmay l ws S
  · simp [packE, hm] at h
  · have hm' := hm
    simp only [pmay, Bool.and_eq_true, decide_eq_true_eq] at hm'
    obtain ⟨m1, m2, m3, m4⟩ := hm'
    have hsum := wsum_le ws m2
    rcases first_big l ws m1 with hbig | ⟨j, x, z, j1, j2, j3, j4⟩
    · have hp := packs_some l ws m1 hbig
      have hpl := pre_length l ws l.length m1 m2
      rw [m1, List.take_length, ← m1] at hpl
      have hB : packB l ws S = pre l ws l.length := by
        simp only [packB, hm, hp, if_true]
        rw [show S.toNat - (pre l ws l.length).length = 0 by omega]; simp
      have hu : umay (packB l ws S) ws = true := by rw [hB]; simp [umay, m2]; omega
      refine ⟨by rw [hB]; omega, hu, ?_, m2, m4, by omega⟩
      rw [unpackX, if_pos hu, hB]
      have := unpacks_pre l ws [] m1 m2 hbig
      rwa [List.append_nil] at this
    · have hp := packs_none l ws j x z j1 j2 j3
      simp [packE, hm, hp] at h
theorem packE_cases (l : List Nat) (ws : List Int) (S : Int) : packE l ws S = 0 ∧ wok ws = true ∧ ws.sum ≤ S ∧ S ≤ 4096 ∨ (packE l ws S = 22 ∨ packE l ws S = 34) ∧ packB l ws S = [] := by
  cases hm : pmay l ws S
  · right; simp [packE, packB, hm]
  · have hm' := hm
    simp only [pmay, Bool.and_eq_true, decide_eq_true_eq] at hm'
    cases hp : packs l ws with
    | none => right; simp [packE, packB, hm, hp]
    | some bs => left; exact ⟨by simp [packE, hm, hp], hm'.2.1, hm'.2.2.1, hm'.2.2.2⟩

theorem sealB_len (seed : BitVec 32) (bs : List UInt8) : (sealB seed bs).length = bs.length := by
  unfold sealB
  split
  · rw [List.length_append, List.length_take, le_length]; omega
  · rfl
theorem sealed_seal (seed : BitVec 32) (bs : List UInt8) (h : 4 ≤ bs.length) : sealedB seed (sealB seed bs) = true := by
  have hl := sealB_len seed bs
  unfold sealedB
  rw [hl]
  have ht : (sealB seed bs).take (bs.length - 4) = bs.take (bs.length - 4) := by
    rw [sealB, if_pos h, List.take_append_of_le_length (by rw [List.length_take]; omega), List.take_of_length_le (by rw [List.length_take]; omega)]
  have hd : (sealB seed bs).drop (bs.length - 4) = le 4 (crc seed (bs.take (bs.length - 4))).toNat := by
    rw [sealB, if_pos h, List.drop_append_of_le_length (by rw [List.length_take]; omega), List.drop_of_length_le (by rw [List.length_take]; omega), List.nil_append]
  rw [ht, hd, num_le _ _ (show (crc seed (bs.take (bs.length - 4))).toNat < 256 ^ 4 from (crc seed _).isLt)]
  simp [h]
theorem split_at {α : Type} {xs : List α} {j : Nat} {x : α} (h : xs[j]? = some x) (y : α) : xs = xs.take j ++ x :: xs.drop (j + 1) ∧ xs.set j y = xs.take j ++ y :: xs.drop (j + 1) := by
  obtain ⟨hlt, he⟩ := List.getElem?_eq_some_iff.1 h
  refine ⟨?_, ?_⟩
  · rw [← he, List.getElem_cons_drop, List.take_append_drop]
  · rw [List.set_eq_take_append_cons_drop, if_pos hlt]
/-- A byte turned breaks a seal. -/
theorem turned_unsealed (seed : BitVec 32) (bs : List UInt8) (j : Nat) (x y : UInt8) (h : sealedB seed bs = true) (hj : bs[j]? = some x) (hxy : x ≠ y) : sealedB seed (bs.set j y) = false := by
  cases hc : sealedB seed (bs.set j y) with
  | false => rfl
  | true =>
    exfalso
    unfold sealedB at h hc
    rw [List.length_set] at hc
    simp only [Bool.and_eq_true, decide_eq_true_eq, beq_iff_eq] at h hc
    obtain ⟨h4, h⟩ := h
    obtain ⟨_, hc⟩ := hc
    by_cases hlt : j < bs.length - 4
    · rw [List.drop_set_of_lt (by omega), List.take_set] at hc
      have hx' : (bs.take (bs.length - 4))[j]? = some x := by rw [List.getElem?_take, if_pos hlt]; exact hj
      obtain ⟨e1, e2⟩ := split_at hx' y
      have heq : crc seed (bs.take (bs.length - 4)) = crc seed ((bs.take (bs.length - 4)).set j y) := BitVec.eq_of_toNat_eq (by omega)
      rw [e2] at heq
      conv at heq => lhs; rw [e1]
      exact hxy (crc_turned seed _ x y _ heq)
    · rw [List.take_set_of_le (by omega)] at hc
      have heq : num (bs.drop (bs.length - 4)) = num ((bs.set j y).drop (bs.length - 4)) := by omega
      have := num_inj (by simp) heq
      have hjj : (bs.drop (bs.length - 4))[j - (bs.length - 4)]? = some x := by rw [List.getElem?_drop, show bs.length - 4 + (j - (bs.length - 4)) = j by omega]; exact hj
      rw [this, List.getElem?_drop, show bs.length - 4 + (j - (bs.length - 4)) = j by omega, List.getElem?_set_self (List.getElem?_eq_some_iff.1 hj).1] at hjj
      injection hjj with hjj
      exact hxy hjj.symm
theorem turn_byte_nat : ∀ (x : BitVec 8) (r : Fin 8), x ≠ x ^^^ BitVec.ofNat 8 (2 ^ r.val) := by decide +kernel
/-- A byte with a bit turned. -/
theorem turn_byte (x : UInt8) (r : Nat) (hr : r < 8) : ∃ y : UInt8, bits .xor .u8 (x.toNat : Int) (2 ^ r % 256) = (y.toNat : Int) ∧ x ≠ y := by
  refine ⟨⟨x.toBitVec ^^^ BitVec.ofNat 8 (2 ^ r)⟩, ?_, fun e => turn_byte_nat x.toBitVec ⟨r, hr⟩ (congrArg UInt8.toBitVec e)⟩
  show IntKind.u8.wrap ((BitVec.ofInt 8 (x.toNat : Int) ^^^ BitVec.ofInt 8 (2 ^ r % 256)).toNat : Int) = _
  have h1 : BitVec.ofInt 8 (x.toNat : Int) = x.toBitVec := by rw [BitVec.ofInt_natCast]; exact BitVec.eq_of_toNat_eq (by rw [BitVec.toNat_ofNat]; exact Nat.mod_eq_of_lt x.toNat_lt)
  have h2 : BitVec.ofInt 8 ((2 : Int) ^ r % 256) = BitVec.ofNat 8 (2 ^ r) := by
    have : ∀ r : Fin 8, BitVec.ofInt 8 ((2 : Int) ^ r.val % 256) = BitVec.ofNat 8 (2 ^ r.val) := by decide +kernel
    exact this ⟨r, hr⟩
  rw [h1, h2]
  have h3 := (x.toBitVec ^^^ BitVec.ofNat 8 (2 ^ r)).isLt
  show IntKind.u8.wrap ((x.toBitVec ^^^ BitVec.ofNat 8 (2 ^ r)).toNat : Int) = ((x.toBitVec ^^^ BitVec.ofNat 8 (2 ^ r)).toNat : Int)
  generalize (x.toBitVec ^^^ BitVec.ofNat 8 (2 ^ r)).toNat = m at *
  rw [IntKind.wrap_u8]
  omega
theorem own_set {w : World} {base g cap n : Nat} {t : TypeId} {bs : List UInt8} (h : w.ownsRow base t 1 (.slice (some ⟨g, 0, none⟩) n cap) n (bvl bs)) (j : Nat) (y : UInt8) :
    (w.setCell ⟨g, j, none⟩ (.int .u8 (y.toNat : Int))).ownsRow base t 1 (.slice (some ⟨g, 0, none⟩) n cap) n (bvl (bs.set j y)) := by
  have := h.stored j (bval y)
  rw [bvl, List.map_set]
  exact this.1
end Go.Proofs.Ytifamhmiibhohaa.Wire

namespace Go.Proofs.Ytifamhmiibhohaa.Lay
open Go.RowKit

def rg (x lo hi : Int) : Bool := decide (lo ≤ x) && decide (x ≤ hi)
theorem rg_true {x lo hi : Int} (h : rg x lo hi = true) : lo ≤ x ∧ x ≤ hi := by simpa [rg] using h
theorem rg_mk {x lo hi : Int} (h : lo ≤ x) (h' : x ≤ hi) : rg x lo hi = true := by simp [rg, h, h']

def chk1 (B P I J : Int) : Bool := rg B 128 4096 && (rg P 32 2016 && (rg I 8 512 && ((I % 2 == 0) && rg J 96 512)))
def chk2 (B P I J : Int) : Bool := decide ((B - 1) / P < 14) && (decide (5 + J + I / 2 ≤ P) && (decide (5 + J + I / 2 ≤ B) && decide (3 + I / 2 ≤ (B - 1) % P + 1)))
/-- May a geometry be? -/
def gok (B P I J : Int) : Bool := chk1 B P I J && chk2 B P I J
def chk (B P I J : Int) : Int := if gok B P I J = true then 0 else 22
/-- How many groups. -/
def grp (B P I J : Int) : Int := if gok B P I J = true then (B - 1) / P + 1 else 0
/-- Is there such a group? -/
def isg (B P I J g : Int) : Bool := decide (0 ≤ g) && decide (g < grp B P I J)
def spanA (B P I J g : Int) : Int := if isg B P I J g = true then g * P else 0
def spanB (B P I J g : Int) : Int := if isg B P I J g = true then (if g * P + P < B then g * P + P else B) else 0
def spanE (B P I J g : Int) : Int := if isg B P I J g = true then 0 else 22
/-- Where the first bitmap of a group lies. -/
def base (P J g : Int) : Int := if g = 0 then 2 + J else g * P
def placeA (B P I J g : Int) : Int := if isg B P I J g = true then base P J g else 0
def placeB (B P I J g : Int) : Int := if isg B P I J g = true then base P J g + 1 else 0
def placeC (B P I J g : Int) : Int := if isg B P I J g = true then base P J g + 2 else 0
def placeD (B P I J g : Int) : Int := if isg B P I J g = true then base P J g + 2 + I / 2 else 0
def fixd (B P I J : Int) : Int := if gok B P I J = true then 2 + J + ((B - 1) / P + 1) * (2 + I / 2) else 0
/-- Is there such an inode? -/
def isi (B P I J n : Int) : Bool := decide (1 ≤ n) && decide (n ≤ grp B P I J * I)
def inoA (B P I J n : Int) : Int := if isi B P I J n = true then placeC B P I J ((n - 1) / I) + (n - 1) % I / 2 else 0
def inoB (B P I J n : Int) : Int := if isi B P I J n = true then (n - 1) % I % 2 * 128 else 0
def inoE (B P I J n : Int) : Int := if isi B P I J n = true then 0 else 22

/-- What a geometry that may be keeps. -/
structure Geo (B P I J : Int) : Prop where
  b1 : 128 ≤ B
  b2 : B ≤ 4096
  p1 : 32 ≤ P
  p2 : P ≤ 2016
  i1 : 8 ≤ I
  i2 : I ≤ 512
  i3 : I % 2 = 0
  j1 : 96 ≤ J
  j2 : J ≤ 512
  n1 : 0 ≤ (B - 1) / P
  n2 : (B - 1) / P < 14
  r1 : 0 ≤ (B - 1) % P
  r2 : (B - 1) % P < P
  f1 : 5 + J + I / 2 ≤ P
  f2 : 5 + J + I / 2 ≤ B
  l1 : 3 + I / 2 ≤ (B - 1) % P + 1
  dm : P * ((B - 1) / P) + (B - 1) % P = B - 1

theorem chk1_true {B P I J : Int} (h : chk1 B P I J = true) : 128 ≤ B ∧ B ≤ 4096 ∧ 32 ≤ P ∧ P ≤ 2016 ∧ 8 ≤ I ∧ I ≤ 512 ∧ I % 2 = 0 ∧ 96 ≤ J ∧ J ≤ 512 := by
  simpa [chk1, rg, and_assoc] using h
theorem chk2_true {B P I J : Int} (h : chk2 B P I J = true) : (B - 1) / P < 14 ∧ 5 + J + I / 2 ≤ P ∧ 5 + J + I / 2 ≤ B ∧ 3 + I / 2 ≤ (B - 1) % P + 1 := by
  simpa [chk2, and_assoc] using h
theorem Geo.of {B P I J : Int} (h : gok B P I J = true) : Geo B P I J := by
  unfold gok at h
  rw [Bool.and_eq_true] at h
  obtain ⟨b1, b2, p1, p2, i1, i2, i3, j1, j2⟩ := chk1_true h.1
  obtain ⟨n2, f1, f2, l1⟩ := chk2_true h.2
  exact ⟨b1, b2, p1, p2, i1, i2, i3, j1, j2, Int.ediv_nonneg (by omega) (by omega), n2, Int.emod_nonneg _ (by omega), Int.emod_lt_of_pos _ (by omega), f1, f2, l1, Int.mul_ediv_add_emod _ _⟩
theorem grp_yes {B P I J : Int} (h : gok B P I J = true) : grp B P I J = (B - 1) / P + 1 := by simp [grp, h]
theorem grp_no {B P I J : Int} (h : gok B P I J = false) : grp B P I J = 0 := by simp [grp, h]
theorem grp_le (B P I J : Int) : 0 ≤ grp B P I J ∧ grp B P I J ≤ 14 := by
  unfold grp
  split
  · rename_i h
    have g := Geo.of h
    have := g.n1; have := g.n2
    omega
  · omega
theorem grp_pos {B P I J : Int} (h : 0 < grp B P I J) : gok B P I J = true := by
  unfold grp at h
  split at h
  · assumption
  · omega
theorem isg_true {B P I J g : Int} (h : isg B P I J g = true) : gok B P I J = true ∧ 0 ≤ g ∧ g ≤ (B - 1) / P := by
  simp [isg] at h
  have hg := grp_pos (B := B) (P := P) (I := I) (J := J) (by omega)
  rw [grp_yes hg] at h
  exact ⟨hg, h.1, by omega⟩
theorem isg_mk {B P I J g : Int} (h : gok B P I J = true) (h0 : 0 ≤ g) (h1 : g ≤ (B - 1) / P) : isg B P I J g = true := by
  simp [isg, grp_yes h]; omega
/-- A group's first block, and what lies behind it. -/
theorem Geo.mul {B P I J g : Int} (G : Geo B P I J) (h0 : 0 ≤ g) (h1 : g ≤ (B - 1) / P) : 0 ≤ g * P ∧ g * P ≤ P * ((B - 1) / P) ∧ g * P ≤ 4095 := by
  have p1 := G.p1
  have e : g * P ≤ ((B - 1) / P) * P := Int.mul_le_mul_of_nonneg_right h1 (by omega)
  rw [Int.mul_comm ((B - 1) / P) P] at e
  have := G.dm; have := G.r1; have := G.b2
  exact ⟨Int.mul_nonneg h0 (by omega), e, by omega⟩
theorem isi_true {B P I J n : Int} (h : isi B P I J n = true) : gok B P I J = true ∧ 1 ≤ n ∧ n ≤ ((B - 1) / P + 1) * I := by
  simp [isi] at h
  have hg : gok B P I J = true := by
    cases e : gok B P I J
    · rw [grp_no e] at h; omega
    · rfl
  rw [grp_yes hg] at h
  exact ⟨hg, h⟩
/-- An inode's group, and its place there. -/
theorem Geo.ino {B P I J n : Int} (G : Geo B P I J) (h0 : 1 ≤ n) (h1 : n ≤ ((B - 1) / P + 1) * I) :
    0 ≤ (n - 1) / I ∧ (n - 1) / I ≤ (B - 1) / P ∧ 0 ≤ (n - 1) % I ∧ (n - 1) % I < I ∧ n ≤ 7168 := by
  have i1 := G.i1; have i2 := G.i2; have n1 := G.n1; have n2 := G.n2
  have hm : ((B - 1) / P + 1) * I ≤ 14 * 512 := Int.mul_le_mul (by omega) (by omega) (by omega) (by omega)
  refine ⟨Int.ediv_nonneg (by omega) (by omega), ?_, Int.emod_nonneg _ (by omega), Int.emod_lt_of_pos _ (by omega), by omega⟩
  have : (n - 1) / I < (B - 1) / P + 1 := Int.ediv_lt_of_lt_mul (by omega) (by omega)
  omega
theorem span_end {B P I J g : Int} (G : Geo B P I J) (h1 : g ≤ (B - 1) / P) :
    (if g * P + P < B then g * P + P else B) = if g < (B - 1) / P then g * P + P else B := by
  have dm := G.dm; have r1 := G.r1; have r2 := G.r2; have p1 := G.p1
  by_cases hl : g < (B - 1) / P
  · have e : (g + 1) * P ≤ ((B - 1) / P) * P := Int.mul_le_mul_of_nonneg_right (by omega) (by omega)
    rw [Int.add_mul, Int.one_mul, Int.mul_comm ((B - 1) / P) P] at e
    rw [if_pos hl, if_pos (by omega)]
  · have hg : g = (B - 1) / P := by omega
    have e : g * P = P * ((B - 1) / P) := by rw [hg, Int.mul_comm]
    rw [if_neg hl]
    by_cases hb : g * P + P < B
    · omega
    · rw [if_neg hb]

/-- The data of the first groups. -/
def dsum (B P I J : Int) : Nat → Int
  | 0 => 0
  | k + 1 => dsum B P I J k + (spanB B P I J k - placeD B P I J k)
theorem dsum_eq {B P I J : Int} (hgo : gok B P I J = true) (k : Nat) (h : (k : Int) ≤ (B - 1) / P) :
    dsum B P I J (k + 1) = (if (k : Int) = (B - 1) / P then B else (k : Int) * P + P) - (2 + J) - ((k : Int) + 1) * (2 + I / 2) := by
  have G := Geo.of hgo
  have hi : ∀ i : Nat, (i : Int) ≤ (B - 1) / P → isg B P I J i = true := fun i hi => isg_mk hgo (by omega) hi
  have hs : ∀ i : Nat, (i : Int) ≤ (B - 1) / P → spanB B P I J i = if (i : Int) < (B - 1) / P then (i : Int) * P + P else B := fun i hle => by
    simp only [spanB, hi i hle, if_true]
    exact span_end G hle
  have hp : ∀ i : Nat, (i : Int) ≤ (B - 1) / P → placeD B P I J i = (if (i : Int) = 0 then 2 + J else (i : Int) * P) + 2 + I / 2 := fun i hle => by
    simp [placeD, hi i hle, base]
  induction k with
  | zero =>
    have e0 := hs 0 h
    have e1 := hp 0 h
    simp only [dsum, e0, e1]
    generalize (B - 1) / P = N at *
    by_cases hz : (0 : Int) = N
    · simp [← hz]; omega
    · simp [hz]
      rw [if_pos (by omega)]; omega
  | succ k ih =>
    have e := ih (by omega)
    have e0 := hs (k + 1) h
    have e1 := hp (k + 1) h
    rw [dsum, e, e0, e1]
    have hne : ¬ ((k : Int) = (B - 1) / P) := by omega
    rw [if_neg hne]
    generalize (B - 1) / P = N at *
    have hc : ((k + 1 : Nat) : Int) = (k : Int) + 1 := by omega
    rw [hc]
    rw [hc] at h
    rw [if_neg (by omega : ¬ ((k : Int) + 1 = 0))]
    simp only [Int.add_mul, Int.one_mul]
    by_cases hz : (k : Int) + 1 = N
    · rw [if_neg (by omega), if_pos hz]; omega
    · rw [if_pos (by omega), if_neg hz]; omega
theorem dsum_le {B P I J : Int} (hgo : gok B P I J = true) (k : Nat) (h : (k : Int) ≤ (B - 1) / P + 1) : 0 ≤ dsum B P I J k ∧ dsum B P I J k ≤ 4096 ∧ (0 < k → 0 < dsum B P I J k) := by
  have G := Geo.of hgo
  have step : ∀ i : Nat, (i : Int) ≤ (B - 1) / P → 0 < spanB B P I J i - placeD B P I J i := fun i hle => by
    have hi := isg_mk hgo (by omega) hle
    simp only [spanB, placeD, hi, if_true, base, span_end G hle]
    have f1 := G.f1; have f2 := G.f2; have l1 := G.l1; have dm := G.dm; have j1 := G.j1
    have hi2 : 0 ≤ I / 2 := Int.ediv_nonneg (by have := G.i1; omega) (by omega)
    by_cases hz : (i : Int) = 0
    · rw [if_pos hz, hz]
      split <;> omega
    · rw [if_neg hz]
      split
      · omega
      · have hg : (i : Int) = (B - 1) / P := by omega
        have e : (i : Int) * P = P * ((B - 1) / P) := by rw [hg, Int.mul_comm]
        omega
  have low : ∀ k : Nat, (k : Int) ≤ (B - 1) / P + 1 → 0 ≤ dsum B P I J k ∧ (0 < k → 0 < dsum B P I J k) := by
    intro k
    induction k with
    | zero => intro _; exact ⟨by simp [dsum], fun h => absurd h (by omega)⟩
    | succ k ih =>
      intro hk
      have := (ih (by omega)).1
      have := step k (by omega)
      simp only [dsum]
      exact ⟨by omega, fun _ => by omega⟩
  refine ⟨(low k h).1, ?_, (low k h).2⟩
  cases k with
  | zero => simp [dsum]
  | succ k =>
    rw [dsum_eq hgo k (by omega)]
    have dm := G.dm; have b2 := G.b2; have j1 := G.j1; have r1 := G.r1
    have hi2 : 0 ≤ I / 2 := Int.ediv_nonneg (by have := G.i1; omega) (by omega)
    have hn : 0 ≤ ((k : Int) + 1) * (2 + I / 2) := Int.mul_nonneg (by omega) (by omega)
    split
    · omega
    · have e : ((k : Int) + 1) * P ≤ ((B - 1) / P) * P := Int.mul_le_mul_of_nonneg_right (by omega) (by have := G.p1; omega)
      rw [Int.add_mul, Int.one_mul, Int.mul_comm ((B - 1) / P) P] at e
      omega
theorem fixd_eq {B P I J : Int} (hgo : gok B P I J = true) : ∀ k : Nat, (k : Int) = grp B P I J → B - dsum B P I J k = fixd B P I J := by
  intro k hk
  rw [grp_yes hgo] at hk
  have n1 := (Geo.of hgo).n1
  obtain ⟨m, rfl⟩ : ∃ m, k = m + 1 := ⟨k - 1, by omega⟩
  have hm : (m : Int) = (B - 1) / P := by omega
  rw [dsum_eq hgo m (by omega), if_pos hm, hm]
  simp only [fixd, hgo, if_true]
  omega
end Go.Proofs.Ytifamhmiibhohaa.Lay

namespace Go.Proofs.Ytifamhmiibhohaa.Lay
open Go.RowKit
set_option maxHeartbeats 8000000

/-! ### layout.Check -/
end Go.Proofs.Ytifamhmiibhohaa.Lay

namespace Go.Proofs.Ytifamhmiibhohaa.Lay
open Go.RowKit
set_option maxHeartbeats 8000000
set_option linter.unusedVariables false
set_option linter.unusedSimpArgs false

/-- A geometry in a block of its own. -/
def geoCells (B P I J : Int) : Array Value := #[.int .i64 B, .int .i64 P, .int .i64 I, .int .i64 J]
theorem geo_cell {w w1 : World} {B P I J : Int} {t : TypeId} (hb : Below (w.heap.size + 1) (w.alloc (.cells #[.int .i64 B, .int .i64 P, .int .i64 I, .int .i64 J] t)) w1) :
    w1.cell? ⟨w.heap.size, 0, none⟩ = some (.int .i64 B) ∧ w1.cell? ⟨w.heap.size, 1, none⟩ = some (.int .i64 P) ∧ w1.cell? ⟨w.heap.size, 2, none⟩ = some (.int .i64 I) ∧ w1.cell? ⟨w.heap.size, 3, none⟩ = some (.int .i64 J) := by
  have h := fun i => hb.cell (p := ⟨w.heap.size, i, none⟩) (by show w.heap.size < w.heap.size + 1; omega)
  refine ⟨(h 0).trans ?_, (h 1).trans ?_, (h 2).trans ?_, (h 3).trans ?_⟩ <;> simp [go_sem]
end Go.Proofs.Ytifamhmiibhohaa.Lay

namespace Go.Proofs.Ytifamhmiibhohaa.Lay
open Go.RowKit
set_option maxHeartbeats 8000000
set_option linter.unusedVariables false
set_option linter.unusedSimpArgs false

end Go.Proofs.Ytifamhmiibhohaa.Lay

namespace Go.Proofs.Ytifamhmiibhohaa.Lay
open Go.RowKit
set_option maxHeartbeats 8000000
set_option linter.unusedVariables false
set_option linter.unusedSimpArgs false

theorem ceil_eq (B P : Int) (hP : 0 < P) : (B + P - 1) / P = (B - 1) / P + 1 := by
  rw [show B + P - 1 = (B - 1) + 1 * P by omega, Int.add_mul_ediv_right _ _ (by omega)]

end Go.Proofs.Ytifamhmiibhohaa.Lay

namespace Go.Proofs.Ytifamhmiibhohaa.Lay
open Go.RowKit
set_option maxHeartbeats 8000000
set_option linter.unusedVariables false
set_option linter.unusedSimpArgs false

end Go.Proofs.Ytifamhmiibhohaa.Lay

namespace Go.Proofs.Ytifamhmiibhohaa.Lay
open Go.RowKit Go.Proofs.Ytifamhmiibhohaa.Wire
set_option maxHeartbeats 8000000
set_option maxRecDepth 100000
set_option linter.unusedVariables false
set_option linter.unusedSimpArgs false

/-- The numbers that come one behind the other, from a place on. -/
def recs (bs : List UInt8) : Int → List Int → List Int
  | _, [] => []
  | p, z :: ws => (getX bs p z : Int) :: recs bs (p + z) ws
theorem recs_length (bs : List UInt8) : ∀ (ws : List Int) (p : Int), (recs bs p ws).length = ws.length
  | [], _ => rfl
  | z :: ws, p => by simp [recs, recs_length bs ws]
theorem recs_at (bs : List UInt8) : ∀ (ws : List Int) (p : Int) (k : Nat) (z : Int), ws[k]? = some z → (recs bs p ws)[k]? = some ((getX bs (p + (ws.take k).sum) z : Int))
  | [], _, _, _, h => by simp at h
  | y :: ws, p, 0, z, h => by simp at h; subst h; simp [recs]
  | y :: ws, p, k + 1, z, h => by
    simp only [recs, List.getElem?_cons_succ, List.take_succ_cons, List.sum_cons]
    rw [recs_at bs ws (p + y) k z (by simpa using h), Int.add_assoc]
theorem getX_lt (bs : List UInt8) (p z : Int) (hz : z ≤ 4) : getX bs p z < 4294967296 := by
  unfold getX
  split
  · rename_i hf
    have hl := sub_length hf
    have := num_lt (sub bs p z)
    have h2 : 256 ^ (sub bs p z).length ≤ 256 ^ 4 := Nat.pow_le_pow_right (by omega) (by omega)
    omega
  · omega

/-- The widths of the first block's numbers. -/
def superWs : List Int := [4, 2, 4, 4, 4, 4, 4, 4, 4, 4, 1]
theorem rep3 (m : Nat) : ints (List.replicate (m + 3) 4) = ints (List.replicate m 4) ++ ints [4, 4, 4] := by
  rw [show ([4, 4, 4] : List Int) = List.replicate 3 4 from rfl, ints, ints, ints, ← List.map_append, List.replicate_append_replicate]
theorem sealB_length (seed : BitVec 32) (bs : List UInt8) : (sealB seed bs).length = bs.length := by
  unfold sealB
  split
  · simp [le_length]; omega
  · rfl
theorem seal_any (base n c : Nat) (A : Option Addr) (bs : List UInt8) (seed : BitVec 32) (w : World) (hbl : bs.length = n)
    (hown : w.ownsRow base 5 1 (.slice A n c) n (bvl bs)) :
    Calls Try.prog 31 #[.slice A n c, .int .u32 (seed.toNat : Int)] w fun e w' => e = .returned (.int .i64 (sealE n)) ∧
      w'.ownsRow base 5 1 (.slice A n c) n (bvl (sealB seed bs)) ∧ w.grownBy w' (Value.slice A n c).ownBlock := by
  by_cases h0 : 0 < n
  · obtain ⟨g, cap, cs, e, _, _, _, _, _⟩ := own_form hown h0
    injection e with e1 e2 e3
    subst e1 e3
    refine (seal_row base g n c n bs [] seed w hbl (Nat.le_refl _) (by rw [List.append_nil]; exact hown)).mono ?_
    rintro e w' ⟨he, ho, hg⟩
    rw [List.append_nil] at ho
    exact ⟨he, ho, hg⟩
  · obtain rfl : n = 0 := by omega
    refine (seal_no A 0 c seed w (by omega) (by omega)).mono ?_
    rintro e w' ⟨he, hb⟩
    exact ⟨he, by rw [show sealB seed bs = bs by rw [sealB, if_neg (by omega)]]; exact own_below hown hb, only_of_below hb _⟩

theorem packB_lenle (l : List Nat) (ws : List Int) (size : Int) (hs : size ≤ 4096) : (packB l ws size).length ≤ 4096 := by
  unfold packB
  split
  · rename_i hm
    simp only [pmay, Bool.and_eq_true, decide_eq_true_eq] at hm
    obtain ⟨m1, m2, m3, m4⟩ := hm
    cases hp : packs l ws with
    | none => simp
    | some bs =>
      have hbl : bs = pre l ws l.length := by
        rcases first_big l ws m1 with hbig | ⟨j, x, z, j1, j2, j3, _⟩
        · have := packs_some l ws m1 hbig
          rw [hp] at this; injection this
        · have := packs_none l ws j x z j1 j2 j3
          rw [hp] at this; cases this
      have hpl := pre_length l ws l.length m1 m2
      rw [m1, List.take_length, ← m1, ← hbl] at hpl
      simp; omega
  · simp
end Go.Proofs.Ytifamhmiibhohaa.Lay
