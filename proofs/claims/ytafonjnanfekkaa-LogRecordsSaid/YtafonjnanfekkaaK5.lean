
/-
  PLAIN: layer 1 (wire): there and back; a turned byte.
  PLAIN: the arithmetic of layer 4 (layout): which geometries may be, where each group and each inode lies. No program in sight.
  THE WALKS of layer 4 (layout), the program's and the document's: Check, Groups, Span, Place, Fixed, InodeAt.
  THE WALKS of layer 4 (layout), the program's, second part: Groups, Span, Place, InodeAt.
  THE WALK of layout.Fixed: a loop over the groups.
  THE WALKS of the document's layer 4 (hayrickref04): within, groups, Check, Groups, Span, Place, Fixed, InodeAt.
  THE WALKS of the document's layer 4 (hayrickref04), second part: Span, Place, Fixed, InodeAt.
  THE WALKS of layer 4 (layout), blocks: numbers, widths, sealed, record.
-/
import Derived.Test.YtafonjnanfekkaaK4
import Derived.RowKit
import Derived.Test.YtafonjnanfekkaaProg
import Derived.Test.YtafonjnanfekkaaK1
import Derived.Test.YtafonjnanfekkaaK3
import Derived.Test.YtafonjnanfekkaaK2
namespace Go.Proofs.Ytafonjnanfekkaa.Wire
open Go.RowKit
set_option linter.unusedVariables false
set_option linter.unusedSimpArgs false

def clampW (z : Int) : Int := max 0 (min z 9)
def csum (ws : List Int) : Int := (ws.map clampW).sum
theorem clamp_bounds (z : Int) : 0 ≤ clampW z ∧ clampW z ≤ 9 := by unfold clampW; omega
theorem csum_succ {ws : List Int} {k : Nat} {z : Int} (hz : ws[k]? = some z) : csum (ws.take (k + 1)) = csum (ws.take k) + clampW z := by
  rw [List.take_add_one, hz]; simp [csum]
theorem csum_pos (ws : List Int) : 0 ≤ csum ws := by
  induction ws with
  | nil => simp [csum]
  | cons z l ih =>
    have := clamp_bounds z
    simp only [csum, List.map_cons, List.sum_cons] at ih ⊢; omega
theorem csum_wok {ws : List Int} (h : wok ws = true) : csum ws = ws.sum := by
  induction ws with
  | nil => rfl
  | cons z l ih =>
    simp only [wok, List.all_cons, Bool.and_eq_true] at h
    obtain ⟨h1, h2⟩ := wok1_true h.1
    have := ih h.2
    simp only [csum, List.map_cons, List.sum_cons] at this ⊢
    have : clampW z = z := by unfold clampW; omega
    omega

theorem unpacks_pre : ∀ (l : List Nat) (ws : List Int) (t : List UInt8), l.length = ws.length → wok ws = true → (∀ (k x : Nat) (z : Int), l[k]? = some x → ws[k]? = some z → x < 256 ^ z.toNat) →
    unpacks (pre l ws l.length ++ t) ws = l
  | [], [], t, _, _, _ => rfl
  | x :: l, z :: ws, t, h, hw, hk => by
    simp only [wok, List.all_cons, Bool.and_eq_true] at hw
    have h0 := hk 0 x z rfl rfl
    have ih := unpacks_pre l ws t (by simpa using h) hw.2 (fun k y v hy hv => hk (k + 1) y v (by simpa using hy) (by simpa using hv))
    simp only [List.length_cons, pre, unpacks, List.append_assoc]
    rw [List.take_append_of_le_length (by rw [le_length]; exact Nat.le_refl _), List.take_of_length_le (by rw [le_length]; exact Nat.le_refl _), num_le _ _ h0]
    rw [List.drop_append_of_le_length (by rw [le_length]; exact Nat.le_refl _), List.drop_of_length_le (by rw [le_length]; exact Nat.le_refl _), List.nil_append, ih]

/-- Packed with no room to spare: unpacked it is the same. -/
theorem back_pack {l : List Nat} {ws : List Int} {S : Int} (h : packE l ws S = 0) (hS : S = ws.sum) :
    (packB l ws S).length = S.toNat ∧ umay (packB l ws S) ws = true ∧ unpackX (packB l ws S) ws = l ∧ wok ws = true ∧ S ≤ 4096 ∧ 0 ≤ S := by
  cases hm : pmay l ws S
  · simp [packE, hm] at h
  · have hm' := hm
    simp only [pmay, Bool.and_eq_true, decide_eq_true_eq] at hm'
    obtain ⟨m1, m2, m3, m4⟩ := hm'
    have hsum := wsum_le ws m2
    rcases first_big l ws m1 with hbig | ⟨j, x, z, j1, j2, j3, j4⟩
    · have hp := packs_some l ws m1 hbig
      have hpl := pre_length l ws l.length m1 m2
      rw [m1, List.take_length, ← m1] at hpl
      have hB : packB l ws S = pre l ws l.length := by
        simp only [packB, hm, hp, if_true]
        rw [show S.toNat - (pre l ws l.length).length = 0 by omega]; simp
      have hu : umay (packB l ws S) ws = true := by rw [hB]; simp [umay, m2]; omega
      refine ⟨by rw [hB]; omega, hu, ?_, m2, m4, by omega⟩
      rw [unpackX, if_pos hu, hB]
      have := unpacks_pre l ws [] m1 m2 hbig
      rwa [List.append_nil] at this
    · have hp := packs_none l ws j x z j1 j2 j3
      simp [packE, hm, hp] at h
theorem packE_cases (l : List Nat) (ws : List Int) (S : Int) : packE l ws S = 0 ∧ wok ws = true ∧ ws.sum ≤ S ∧ S ≤ 4096 ∨ (packE l ws S = 22 ∨ packE l ws S = 34) ∧ packB l ws S = [] := by
  cases hm : pmay l ws S
  · right; simp [packE, packB, hm]
  · have hm' := hm
    simp only [pmay, Bool.and_eq_true, decide_eq_true_eq] at hm'
    cases hp : packs l ws with
    | none => right; simp [packE, packB, hm, hp]
    | some bs => left; exact ⟨by simp [packE, hm, hp], hm'.2.1, hm'.2.2.1, hm'.2.2.2⟩

theorem sealB_len (seed : BitVec 32) (bs : List UInt8) : (sealB seed bs).length = bs.length := by
  unfold sealB
  split
  · rw [List.length_append, List.length_take, le_length]; omega
  · rfl
theorem sealed_seal (seed : BitVec 32) (bs : List UInt8) (h : 4 ≤ bs.length) : sealedB seed (sealB seed bs) = true := by
  have hl := sealB_len seed bs
  unfold sealedB
  rw [hl]
  have ht : (sealB seed bs).take (bs.length - 4) = bs.take (bs.length - 4) := by
    rw [sealB, if_pos h, List.take_append_of_le_length (by rw [List.length_take]; omega), List.take_of_length_le (by rw [List.length_take]; omega)]
  have hd : (sealB seed bs).drop (bs.length - 4) = le 4 (crc seed (bs.take (bs.length - 4))).toNat := by
    rw [sealB, if_pos h, List.drop_append_of_le_length (by rw [List.length_take]; omega), List.drop_of_length_le (by rw [List.length_take]; omega), List.nil_append]
  rw [ht, hd, num_le _ _ (show (crc seed (bs.take (bs.length - 4))).toNat < 256 ^ 4 from (crc seed _).isLt)]
  simp [h]
theorem split_at {α : Type} {xs : List α} {j : Nat} {x : α} (h : xs[j]? = some x) (y : α) : xs = xs.take j ++ x :: xs.drop (j + 1) ∧ xs.set j y = xs.take j ++ y :: xs.drop (j + 1) := by
  obtain ⟨hlt, he⟩ := List.getElem?_eq_some_iff.1 h
  refine ⟨?_, ?_⟩
  · rw [← he, List.getElem_cons_drop, List.take_append_drop]
  · rw [List.set_eq_take_append_cons_drop, if_pos hlt]
/-- A byte turned breaks a seal. -/
theorem turned_unsealed (seed : BitVec 32) (bs : List UInt8) (j : Nat) (x y : UInt8) (h : sealedB seed bs = true) (hj : bs[j]? = some x) (hxy : x ≠ y) : sealedB seed (bs.set j y) = false := by
  cases hc : sealedB seed (bs.set j y) with
  | false => rfl
  | true =>
    exfalso
    unfold sealedB at h hc
    rw [List.length_set] at hc
    simp only [Bool.and_eq_true, decide_eq_true_eq, beq_iff_eq] at h hc
    obtain ⟨h4, h⟩ := h
    obtain ⟨_, hc⟩ := hc
    by_cases hlt : j < bs.length - 4
    · rw [List.drop_set_of_lt (by omega), List.take_set] at hc
      have hx' : (bs.take (bs.length - 4))[j]? = some x := by rw [List.getElem?_take, if_pos hlt]; exact hj
      obtain ⟨e1, e2⟩ := split_at hx' y
      have heq : crc seed (bs.take (bs.length - 4)) = crc seed ((bs.take (bs.length - 4)).set j y) := BitVec.eq_of_toNat_eq (by omega)
      rw [e2] at heq
      conv at heq => lhs; rw [e1]
      exact hxy (crc_turned seed _ x y _ heq)
    · rw [List.take_set_of_le (by omega)] at hc
      have heq : num (bs.drop (bs.length - 4)) = num ((bs.set j y).drop (bs.length - 4)) := by omega
      have := num_inj (by simp) heq
      have hjj : (bs.drop (bs.length - 4))[j - (bs.length - 4)]? = some x := by rw [List.getElem?_drop, show bs.length - 4 + (j - (bs.length - 4)) = j by omega]; exact hj
      rw [this, List.getElem?_drop, show bs.length - 4 + (j - (bs.length - 4)) = j by omega, List.getElem?_set_self (List.getElem?_eq_some_iff.1 hj).1] at hjj
      injection hjj with hjj
      exact hxy hjj.symm
theorem turn_byte_nat : ∀ (x : BitVec 8) (r : Fin 8), x ≠ x ^^^ BitVec.ofNat 8 (2 ^ r.val) := by decide +kernel
/-- A byte with a bit turned. -/
theorem turn_byte (x : UInt8) (r : Nat) (hr : r < 8) : ∃ y : UInt8, bits .xor .u8 (x.toNat : Int) (2 ^ r % 256) = (y.toNat : Int) ∧ x ≠ y := by
  refine ⟨⟨x.toBitVec ^^^ BitVec.ofNat 8 (2 ^ r)⟩, ?_, fun e => turn_byte_nat x.toBitVec ⟨r, hr⟩ (congrArg UInt8.toBitVec e)⟩
  show IntKind.u8.wrap ((BitVec.ofInt 8 (x.toNat : Int) ^^^ BitVec.ofInt 8 (2 ^ r % 256)).toNat : Int) = _
  have h1 : BitVec.ofInt 8 (x.toNat : Int) = x.toBitVec := by rw [BitVec.ofInt_natCast]; exact BitVec.eq_of_toNat_eq (by rw [BitVec.toNat_ofNat]; exact Nat.mod_eq_of_lt x.toNat_lt)
  have h2 : BitVec.ofInt 8 ((2 : Int) ^ r % 256) = BitVec.ofNat 8 (2 ^ r) := by
    have : ∀ r : Fin 8, BitVec.ofInt 8 ((2 : Int) ^ r.val % 256) = BitVec.ofNat 8 (2 ^ r.val) := by decide +kernel
    exact this ⟨r, hr⟩
  rw [h1, h2]
  have h3 := (x.toBitVec ^^^ BitVec.ofNat 8 (2 ^ r)).isLt
  show IntKind.u8.wrap ((x.toBitVec ^^^ BitVec.ofNat 8 (2 ^ r)).toNat : Int) = ((x.toBitVec ^^^ BitVec.ofNat 8 (2 ^ r)).toNat : Int)
  generalize (x.toBitVec ^^^ BitVec.ofNat 8 (2 ^ r)).toNat = m at *
  rw [IntKind.wrap_u8]
  omega
theorem own_set {w : World} {base g cap n : Nat} {t : TypeId} {bs : List UInt8} (h : w.ownsRow base t 1 (.slice (some ⟨g, 0, none⟩) n cap) n (bvl bs)) (j : Nat) (y : UInt8) :
    (w.setCell ⟨g, j, none⟩ (.int .u8 (y.toNat : Int))).ownsRow base t 1 (.slice (some ⟨g, 0, none⟩) n cap) n (bvl (bs.set j y)) := by
  have := h.stored j (bval y)
  rw [bvl, List.map_set]
  exact this.1
end Go.Proofs.Ytafonjnanfekkaa.Wire

namespace Go.Proofs.Ytafonjnanfekkaa.Lay
open Go.RowKit

def rg (x lo hi : Int) : Bool := decide (lo ≤ x) && decide (x ≤ hi)
theorem rg_true {x lo hi : Int} (h : rg x lo hi = true) : lo ≤ x ∧ x ≤ hi := by simpa [rg] using h
theorem rg_mk {x lo hi : Int} (h : lo ≤ x) (h' : x ≤ hi) : rg x lo hi = true := by simp [rg, h, h']

def chk1 (B P I J : Int) : Bool := rg B 128 4096 && (rg P 32 2016 && (rg I 8 512 && ((I % 2 == 0) && rg J 96 512)))
def chk2 (B P I J : Int) : Bool := decide ((B - 1) / P < 14) && (decide (5 + J + I / 2 ≤ P) && (decide (5 + J + I / 2 ≤ B) && decide (3 + I / 2 ≤ (B - 1) % P + 1)))
/-- May a geometry be? -/
def gok (B P I J : Int) : Bool := chk1 B P I J && chk2 B P I J
def chk (B P I J : Int) : Int := if gok B P I J = true then 0 else 22
/-- How many groups. -/
def grp (B P I J : Int) : Int := if gok B P I J = true then (B - 1) / P + 1 else 0
/-- Is there such a group? -/
def isg (B P I J g : Int) : Bool := decide (0 ≤ g) && decide (g < grp B P I J)
def spanA (B P I J g : Int) : Int := if isg B P I J g = true then g * P else 0
def spanB (B P I J g : Int) : Int := if isg B P I J g = true then (if g * P + P < B then g * P + P else B) else 0
def spanE (B P I J g : Int) : Int := if isg B P I J g = true then 0 else 22
/-- Where the first bitmap of a group lies. -/
def base (P J g : Int) : Int := if g = 0 then 2 + J else g * P
def placeA (B P I J g : Int) : Int := if isg B P I J g = true then base P J g else 0
def placeB (B P I J g : Int) : Int := if isg B P I J g = true then base P J g + 1 else 0
def placeC (B P I J g : Int) : Int := if isg B P I J g = true then base P J g + 2 else 0
def placeD (B P I J g : Int) : Int := if isg B P I J g = true then base P J g + 2 + I / 2 else 0
def fixd (B P I J : Int) : Int := if gok B P I J = true then 2 + J + ((B - 1) / P + 1) * (2 + I / 2) else 0
/-- Is there such an inode? -/
def isi (B P I J n : Int) : Bool := decide (1 ≤ n) && decide (n ≤ grp B P I J * I)
def inoA (B P I J n : Int) : Int := if isi B P I J n = true then placeC B P I J ((n - 1) / I) + (n - 1) % I / 2 else 0
def inoB (B P I J n : Int) : Int := if isi B P I J n = true then (n - 1) % I % 2 * 128 else 0
def inoE (B P I J n : Int) : Int := if isi B P I J n = true then 0 else 22

/-- What a geometry that may be keeps. -/
structure Geo (B P I J : Int) : Prop where
  b1 : 128 ≤ B
  b2 : B ≤ 4096
  p1 : 32 ≤ P
  p2 : P ≤ 2016
  i1 : 8 ≤ I
  i2 : I ≤ 512
  i3 : I % 2 = 0
  j1 : 96 ≤ J
  j2 : J ≤ 512
  n1 : 0 ≤ (B - 1) / P
  n2 : (B - 1) / P < 14
  r1 : 0 ≤ (B - 1) % P
  r2 : (B - 1) % P < P
  f1 : 5 + J + I / 2 ≤ P
  f2 : 5 + J + I / 2 ≤ B
  l1 : 3 + I / 2 ≤ (B - 1) % P + 1
  dm : P * ((B - 1) / P) + (B - 1) % P = B - 1

theorem chk1_true {B P I J : Int} (h : chk1 B P I J = true) : 128 ≤ B ∧ B ≤ 4096 ∧ 32 ≤ P ∧ P ≤ 2016 ∧ 8 ≤ I ∧ I ≤ 512 ∧ I % 2 = 0 ∧ 96 ≤ J ∧ J ≤ 512 := by
  simpa [chk1, rg, and_assoc] using h
theorem chk2_true {B P I J : Int} (h : chk2 B P I J = true) : (B - 1) / P < 14 ∧ 5 + J + I / 2 ≤ P ∧ 5 + J + I / 2 ≤ B ∧ 3 + I / 2 ≤ (B - 1) % P + 1 := by
  simpa [chk2, and_assoc] using h
theorem Geo.of {B P I J : Int} (h : gok B P I J = true) : Geo B P I J := by
  unfold gok at h
  rw [Bool.and_eq_true] at h
  obtain ⟨b1, b2, p1, p2, i1, i2, i3, j1, j2⟩ := chk1_true h.1
  obtain ⟨n2, f1, f2, l1⟩ := chk2_true h.2
  exact ⟨b1, b2, p1, p2, i1, i2, i3, j1, j2, Int.ediv_nonneg (by omega) (by omega), n2, Int.emod_nonneg _ (by omega), Int.emod_lt_of_pos _ (by omega), f1, f2, l1, Int.mul_ediv_add_emod _ _⟩
theorem grp_yes {B P I J : Int} (h : gok B P I J = true) : grp B P I J = (B - 1) / P + 1 := by simp [grp, h]
theorem grp_no {B P I J : Int} (h : gok B P I J = false) : grp B P I J = 0 := by simp [grp, h]
theorem grp_le (B P I J : Int) : 0 ≤ grp B P I J ∧ grp B P I J ≤ 14 := by
  unfold grp
  split
  · rename_i h
    have g := Geo.of h
    have := g.n1; have := g.n2
    omega
  · omega
theorem grp_pos {B P I J : Int} (h : 0 < grp B P I J) : gok B P I J = true := by
  unfold grp at h
  split at h
  · assumption
  · omega
theorem isg_true {B P I J g : Int} (h : isg B P I J g = true) : gok B P I J = true ∧ 0 ≤ g ∧ g ≤ (B - 1) / P := by
  simp [isg] at h
  have hg := grp_pos (B := B) (P := P) (I := I) (J := J) (by omega)
  rw [grp_yes hg] at h
  exact ⟨hg, h.1, by omega⟩
theorem isg_mk {B P I J g : Int} (h : gok B P I J = true) (h0 : 0 ≤ g) (h1 : g ≤ (B - 1) / P) : isg B P I J g = true := by
  simp [isg, grp_yes h]; omega
/-- A group's first block, and what lies behind it. -/
theorem Geo.mul {B P I J g : Int} (G : Geo B P I J) (h0 : 0 ≤ g) (h1 : g ≤ (B - 1) / P) : 0 ≤ g * P ∧ g * P ≤ P * ((B - 1) / P) ∧ g * P ≤ 4095 := by
  have p1 := G.p1
  have e : g * P ≤ ((B - 1) / P) * P := Int.mul_le_mul_of_nonneg_right h1 (by omega)
  rw [Int.mul_comm ((B - 1) / P) P] at e
  have := G.dm; have := G.r1; have := G.b2
  exact ⟨Int.mul_nonneg h0 (by omega), e, by omega⟩
theorem isi_true {B P I J n : Int} (h : isi B P I J n = true) : gok B P I J = true ∧ 1 ≤ n ∧ n ≤ ((B - 1) / P + 1) * I := by
  simp [isi] at h
  have hg : gok B P I J = true := by
    cases e : gok B P I J
    · rw [grp_no e] at h; omega
    · rfl
  rw [grp_yes hg] at h
  exact ⟨hg, h⟩
/-- An inode's group, and its place there. -/
theorem Geo.ino {B P I J n : Int} (G : Geo B P I J) (h0 : 1 ≤ n) (h1 : n ≤ ((B - 1) / P + 1) * I) :
    0 ≤ (n - 1) / I ∧ (n - 1) / I ≤ (B - 1) / P ∧ 0 ≤ (n - 1) % I ∧ (n - 1) % I < I ∧ n ≤ 7168 := by
  have i1 := G.i1; have i2 := G.i2; have n1 := G.n1; have n2 := G.n2
  have hm : ((B - 1) / P + 1) * I ≤ 14 * 512 := Int.mul_le_mul (by omega) (by omega) (by omega) (by omega)
  refine ⟨Int.ediv_nonneg (by omega) (by omega), ?_, Int.emod_nonneg _ (by omega), Int.emod_lt_of_pos _ (by omega), by omega⟩
  have : (n - 1) / I < (B - 1) / P + 1 := Int.ediv_lt_of_lt_mul (by omega) (by omega)
  omega
theorem span_end {B P I J g : Int} (G : Geo B P I J) (h1 : g ≤ (B - 1) / P) :
    (if g * P + P < B then g * P + P else B) = if g < (B - 1) / P then g * P + P else B := by
  have dm := G.dm; have r1 := G.r1; have r2 := G.r2; have p1 := G.p1
  by_cases hl : g < (B - 1) / P
  · have e : (g + 1) * P ≤ ((B - 1) / P) * P := Int.mul_le_mul_of_nonneg_right (by omega) (by omega)
    rw [Int.add_mul, Int.one_mul, Int.mul_comm ((B - 1) / P) P] at e
    rw [if_pos hl, if_pos (by omega)]
  · have hg : g = (B - 1) / P := by omega
    have e : g * P = P * ((B - 1) / P) := by rw [hg, Int.mul_comm]
    rw [if_neg hl]
    by_cases hb : g * P + P < B
    · omega
    · rw [if_neg hb]

/-- The data of the first groups. -/
def dsum (B P I J : Int) : Nat → Int
  | 0 => 0
  | k + 1 => dsum B P I J k + (spanB B P I J k - placeD B P I J k)
theorem dsum_eq {B P I J : Int} (hgo : gok B P I J = true) (k : Nat) (h : (k : Int) ≤ (B - 1) / P) :
    dsum B P I J (k + 1) = (if (k : Int) = (B - 1) / P then B else (k : Int) * P + P) - (2 + J) - ((k : Int) + 1) * (2 + I / 2) := by
  have G := Geo.of hgo
  have hi : ∀ i : Nat, (i : Int) ≤ (B - 1) / P → isg B P I J i = true := fun i hi => isg_mk hgo (by omega) hi
  have hs : ∀ i : Nat, (i : Int) ≤ (B - 1) / P → spanB B P I J i = if (i : Int) < (B - 1) / P then (i : Int) * P + P else B := fun i hle => by
    simp only [spanB, hi i hle, if_true]
    exact span_end G hle
  have hp : ∀ i : Nat, (i : Int) ≤ (B - 1) / P → placeD B P I J i = (if (i : Int) = 0 then 2 + J else (i : Int) * P) + 2 + I / 2 := fun i hle => by
    simp [placeD, hi i hle, base]
  induction k with
  | zero =>
    have e0 := hs 0 h
    have e1 := hp 0 h
    simp only [dsum, e0, e1]
    generalize (B - 1) / P = N at *
    by_cases hz : (0 : Int) = N
    · simp [← hz]; omega
    · simp [hz]
      rw [if_pos (by omega)]; omega
  | succ k ih =>
    have e := ih (by omega)
    have e0 := hs (k + 1) h
    have e1 := hp (k + 1) h
    rw [dsum, e, e0, e1]
    have hne : ¬ ((k : Int) = (B - 1) / P) := by omega
    rw [if_neg hne]
    generalize (B - 1) / P = N at *
    have hc : ((k + 1 : Nat) : Int) = (k : Int) + 1 := by omega
    rw [hc]
    rw [hc] at h
    rw [if_neg (by omega : ¬ ((k : Int) + 1 = 0))]
    simp only [Int.add_mul, Int.one_mul]
    by_cases hz : (k : Int) + 1 = N
    · rw [if_neg (by omega), if_pos hz]; omega
    · rw [if_pos (by omega), if_neg hz]; omega
theorem dsum_le {B P I J : Int} (hgo : gok B P I J = true) (k : Nat) (h : (k : Int) ≤ (B - 1) / P + 1) : 0 ≤ dsum B P I J k ∧ dsum B P I J k ≤ 4096 ∧ (0 < k → 0 < dsum B P I J k) := by
  have G := Geo.of hgo
  have step : ∀ i : Nat, (i : Int) ≤ (B - 1) / P → 0 < spanB B P I J i - placeD B P I J i := fun i hle => by
    have hi := isg_mk hgo (by omega) hle
    simp only [spanB, placeD, hi, if_true, base, span_end G hle]
    have f1 := G.f1; have f2 := G.f2; have l1 := G.l1; have dm := G.dm; have j1 := G.j1
    have hi2 : 0 ≤ I / 2 := Int.ediv_nonneg (by have := G.i1; omega) (by omega)
    by_cases hz : (i : Int) = 0
    · rw [if_pos hz, hz]
      split <;> omega
    · rw [if_neg hz]
      split
      · omega
      · have hg : (i : Int) = (B - 1) / P := by omega
        have e : (i : Int) * P = P * ((B - 1) / P) := by rw [hg, Int.mul_comm]
        omega
  have low : ∀ k : Nat, (k : Int) ≤ (B - 1) / P + 1 → 0 ≤ dsum B P I J k ∧ (0 < k → 0 < dsum B P I J k) := by
    intro k
    induction k with
    | zero => intro _; exact ⟨by simp [dsum], fun h => absurd h (by omega)⟩
    | succ k ih =>
      intro hk
      have := (ih (by omega)).1
      have := step k (by omega)
      simp only [dsum]
      exact ⟨by omega, fun _ => by omega⟩
  refine ⟨(low k h).1, ?_, (low k h).2⟩
  cases k with
  | zero => simp [dsum]
  | succ k =>
    rw [dsum_eq hgo k (by omega)]
    have dm := G.dm; have b2 := G.b2; have j1 := G.j1; have r1 := G.r1
    have hi2 : 0 ≤ I / 2 := Int.ediv_nonneg (by have := G.i1; omega) (by omega)
    have hn : 0 ≤ ((k : Int) + 1) * (2 + I / 2) := Int.mul_nonneg (by omega) (by omega)
    split
    · omega
    · have e : ((k : Int) + 1) * P ≤ ((B - 1) / P) * P := Int.mul_le_mul_of_nonneg_right (by omega) (by have := G.p1; omega)
      rw [Int.add_mul, Int.one_mul, Int.mul_comm ((B - 1) / P) P] at e
      omega
theorem fixd_eq {B P I J : Int} (hgo : gok B P I J = true) : ∀ k : Nat, (k : Int) = grp B P I J → B - dsum B P I J k = fixd B P I J := by
  intro k hk
  rw [grp_yes hgo] at hk
  have n1 := (Geo.of hgo).n1
  obtain ⟨m, rfl⟩ : ∃ m, k = m + 1 := ⟨k - 1, by omega⟩
  have hm : (m : Int) = (B - 1) / P := by omega
  rw [dsum_eq hgo m (by omega), if_pos hm, hm]
  simp only [fixd, hgo, if_true]
  omega
end Go.Proofs.Ytafonjnanfekkaa.Lay

namespace Go.Proofs.Ytafonjnanfekkaa.Lay
open Go.RowKit
set_option maxHeartbeats 8000000

theorem ranged_any (x lo hi : Int) (w : World) :
    Calls Try.prog 64 #[.int .i64 x, .int .i64 lo, .int .i64 hi] w fun e w' => e = .returned (.bool (rg x lo hi)) ∧ w = w' := by
  by_cases h : lo ≤ x
  · go_enter Try.func64, Try.ntmps64
    go_wp2
    go_ret
    simp [rg, h]
  · go_enter Try.func64, Try.ntmps64
    go_wp2
    go_ret
    simp [rg]; omega

/-! ### layout.Check -/
theorem lcheck_out (B P I J : Int) (w : World) (h : chk1 B P I J = false) :
    Calls Try.prog 43 #[.agg #[.int .i64 B, .int .i64 P, .int .i64 I, .int .i64 J]] w fun e w' => e = .returned (.int .i64 22) ∧ Below w.heap.size w w' := by
  unfold chk1 at h
  have fin := (Below.refl w.heap.size w).alloc (Nat.le_refl _) (.cells #[.int .i64 B, .int .i64 P, .int .i64 I, .int .i64 J] 37)
  have FIN := Lib.hid fin
  clear fin
  cases h1 : rg B 128 4096
  · go_enter Try.func43, Try.ntmps43
    go_wp2_with (go_at_call 64; refine (ranged_any _ _ _ _).mono ?_; rintro e w' ⟨rfl, rfl⟩)
    go_ret
    exact ⟨rfl, FIN.out⟩
  cases h2 : rg P 32 2016
  · go_enter Try.func43, Try.ntmps43
    go_wp2_with (go_at_call 64; refine (ranged_any _ _ _ _).mono ?_; rintro e w' ⟨rfl, rfl⟩)
    go_ret
    exact ⟨rfl, FIN.out⟩
  cases h3 : rg I 8 512
  · go_enter Try.func43, Try.ntmps43
    go_wp2_with (go_at_call 64; refine (ranged_any _ _ _ _).mono ?_; rintro e w' ⟨rfl, rfl⟩)
    go_ret
    exact ⟨rfl, FIN.out⟩
  have hi := rg_true h3
  have ha := and_one I (by omega) (by omega)
  simp only [h1, h2, h3, Bool.true_and] at h
  cases h4 : (I % 2 == 0)
  · have h4' : (bits .and .i64 I 1 != 0) = true := by rw [ha]; simpa using h4
    clear ha h h4
    go_enter Try.func43, Try.ntmps43
    go_wp2_with (go_at_call 64; refine (ranged_any _ _ _ _).mono ?_; rintro e w' ⟨rfl, rfl⟩)
    go_ret
    exact ⟨rfl, FIN.out⟩
  · have h4' : (bits .and .i64 I 1 != 0) = false := by rw [ha]; simpa using h4
    have h5 : rg J 96 512 = false := by simpa [h4] using h
    clear ha h h4
    go_enter Try.func43, Try.ntmps43
    go_wp2_with (go_at_call 64; refine (ranged_any _ _ _ _).mono ?_; rintro e w' ⟨rfl, rfl⟩)
    go_ret
    exact ⟨rfl, FIN.out⟩

theorem lcheck_in (B P I J : Int) (w : World) (h : chk1 B P I J = true) :
    Calls Try.prog 43 #[.agg #[.int .i64 B, .int .i64 P, .int .i64 I, .int .i64 J]] w fun e w' => e = .returned (.int .i64 (chk B P I J)) ∧ Below w.heap.size w w' := by
  obtain ⟨b1, b2, p1, p2, i1, i2, i3, j1, j2⟩ := chk1_true h
  have s1 : rg B 128 4096 = true := by simp [rg, *]
  have s2 : rg P 32 2016 = true := by simp [rg, *]
  have s3 : rg I 8 512 = true := by simp [rg, *]
  have s4 : rg J 96 512 = true := by simp [rg, *]
  have s5 : (bits .and .i64 I 1 != 0) = false := by rw [and_one I (by omega) (by omega), i3]; rfl
  have hno : chk2 B P I J = false → (22 : Int) = chk B P I J := fun e => by simp [chk, gok, h, e]
  have HNO := Lib.hid hno
  have hye : chk2 B P I J = true → (0 : Int) = chk B P I J := fun e => by simp [chk, gok, h, e]
  have HYE := Lib.hid hye
  clear hno hye
  clear i3 h
  have d1 : 0 ≤ (B - 1) / P := Int.ediv_nonneg (by omega) (by omega)
  have d2 : (B - 1) / P ≤ B - 1 := Int.ediv_le_self _ (by omega)
  have m1 : 0 ≤ (B - 1) % P := Int.emod_nonneg _ (by omega)
  have m2 : (B - 1) % P < P := Int.emod_lt_of_pos _ (by omega)
  have fin := (Below.refl w.heap.size w).alloc (Nat.le_refl _) (.cells #[.int .i64 B, .int .i64 P, .int .i64 I, .int .i64 J] 37)
  have FIN := Lib.hid fin
  clear fin
  by_cases q1 : 14 ≤ (B - 1) / P
  · have q : chk2 B P I J = false := by simp [chk2]; omega
    have Q := Lib.hid q
    clear q
    go_enter Try.func43, Try.ntmps43
    go_wp2_with (go_at_call 64; refine (ranged_any _ _ _ _).mono ?_; rintro e w' ⟨rfl, rfl⟩)
    go_ret
    exact ⟨ret_int (HNO.out Q.out), FIN.out⟩
  by_cases q2 : 5 + J + I / 2 ≤ P
  · by_cases q3 : 5 + J + I / 2 ≤ B
    · by_cases q4 : 3 + I / 2 ≤ (B - 1) % P + 1
      · have q : chk2 B P I J = true := by simp [chk2]; omega
        have Q := Lib.hid q
        clear q
        by_cases hm : P < B
        all_goals
          go_enter Try.func43, Try.ntmps43
          go_wp2_with (go_at_call 64; refine (ranged_any _ _ _ _).mono ?_; rintro e w' ⟨rfl, rfl⟩)
          go_ret
          exact ⟨ret_int (HYE.out Q.out), FIN.out⟩
      · have q : chk2 B P I J = false := by simp [chk2]; omega
        have Q := Lib.hid q
        clear q
        by_cases hm : P < B
        all_goals
          go_enter Try.func43, Try.ntmps43
          go_wp2_with (go_at_call 64; refine (ranged_any _ _ _ _).mono ?_; rintro e w' ⟨rfl, rfl⟩)
          go_ret
          exact ⟨ret_int (HNO.out Q.out), FIN.out⟩
    · have q : chk2 B P I J = false := by simp [chk2]; omega
      have Q := Lib.hid q
      clear q
      by_cases hm : P < B
      · omega
      · go_enter Try.func43, Try.ntmps43
        go_wp2_with (go_at_call 64; refine (ranged_any _ _ _ _).mono ?_; rintro e w' ⟨rfl, rfl⟩)
        go_ret
        exact ⟨ret_int (HNO.out Q.out), FIN.out⟩
  · have q : chk2 B P I J = false := by simp [chk2]; omega
    have Q := Lib.hid q
    clear q
    by_cases hm : P < B
    · go_enter Try.func43, Try.ntmps43
      go_wp2_with (go_at_call 64; refine (ranged_any _ _ _ _).mono ?_; rintro e w' ⟨rfl, rfl⟩)
      go_ret
      exact ⟨ret_int (HNO.out Q.out), FIN.out⟩
    · by_cases q3 : 5 + J + I / 2 ≤ B
      · omega
      · go_enter Try.func43, Try.ntmps43
        go_wp2_with (go_at_call 64; refine (ranged_any _ _ _ _).mono ?_; rintro e w' ⟨rfl, rfl⟩)
        go_ret
        exact ⟨ret_int (HNO.out Q.out), FIN.out⟩

theorem lcheck_any (B P I J : Int) (w : World) :
    Calls Try.prog 43 #[.agg #[.int .i64 B, .int .i64 P, .int .i64 I, .int .i64 J]] w fun e w' => e = .returned (.int .i64 (chk B P I J)) ∧ Below w.heap.size w w' := by
  cases h : chk1 B P I J
  · refine (lcheck_out B P I J w h).mono fun e w' ⟨he, hw⟩ => ⟨he.trans (ret_int ?_), hw⟩
    simp [chk, gok, h]
  · exact lcheck_in B P I J w h
end Go.Proofs.Ytafonjnanfekkaa.Lay

namespace Go.Proofs.Ytafonjnanfekkaa.Lay
open Go.RowKit
set_option maxHeartbeats 8000000
set_option linter.unusedVariables false
set_option linter.unusedSimpArgs false

/-- A geometry in a block of its own. -/
def geoCells (B P I J : Int) : Array Value := #[.int .i64 B, .int .i64 P, .int .i64 I, .int .i64 J]
theorem geo_cell {w w1 : World} {B P I J : Int} {t : TypeId} (hb : Below (w.heap.size + 1) (w.alloc (.cells #[.int .i64 B, .int .i64 P, .int .i64 I, .int .i64 J] t)) w1) :
    w1.cell? ⟨w.heap.size, 0, none⟩ = some (.int .i64 B) ∧ w1.cell? ⟨w.heap.size, 1, none⟩ = some (.int .i64 P) ∧ w1.cell? ⟨w.heap.size, 2, none⟩ = some (.int .i64 I) ∧ w1.cell? ⟨w.heap.size, 3, none⟩ = some (.int .i64 J) := by
  have h := fun i => hb.cell (p := ⟨w.heap.size, i, none⟩) (by show w.heap.size < w.heap.size + 1; omega)
  refine ⟨(h 0).trans ?_, (h 1).trans ?_, (h 2).trans ?_, (h 3).trans ?_⟩ <;> simp [go_sem]
theorem lgroups_any (B P I J : Int) (w : World) :
    Calls Try.prog 62 #[.agg #[.int .i64 B, .int .i64 P, .int .i64 I, .int .i64 J]] w fun e w' => e = .returned (.int .i64 (grp B P I J)) ∧ Below w.heap.size w w' := by
  cases h : gok B P I J
  · have hc : (chk B P I J != 0) = true := by simp [chk, h]
    have hz := grp_no h
    have HZ := Lib.hid hz
    clear hz h
    go_enter Try.func62, Try.ntmps62
    go_wp2_with (go_at_call 43; refine (lcheck_any _ _ _ _ _).mono ?_; rintro e w1 ⟨rfl, hb⟩)
    go_ret
    exact ⟨ret_int HZ.out.symm, below_of_new hb⟩
  · have hc : (chk B P I J != 0) = false := by simp [chk, h]
    have hz := grp_yes h
    have HZ := Lib.hid hz
    have G := Geo.of h
    have b1 := G.b1; have b2 := G.b2; have p1 := G.p1; have p2 := G.p2; have n1 := G.n1; have n2 := G.n2
    clear hz h G
    go_enter Try.func62, Try.ntmps62
    go_wp2_with (go_at_call 43; refine (lcheck_any _ _ _ _ _).mono ?_; rintro e w1 ⟨rfl, hb⟩; obtain ⟨g0, g1, g2, g3⟩ := geo_cell (by simpa using hb); have HB := Lib.hid hb; clear hb)
    go_ret
    exact ⟨ret_int HZ.out.symm, below_of_new HB.out⟩

theorem lspan_any (B P I J g : Int) (w : World) :
    Calls Try.prog 59 #[.agg #[.int .i64 B, .int .i64 P, .int .i64 I, .int .i64 J], .int .i64 g] w fun e w' => e = .returned (.tuple #[.int .i64 (spanA B P I J g), .int .i64 (spanB B P I J g), .int .i64 (spanE B P I J g)]) ∧ Below w.heap.size w w' := by
  have fin := (Below.refl w.heap.size w).alloc (Nat.le_refl _) (.cells #[.int .i64 B, .int .i64 P, .int .i64 I, .int .i64 J] 37)
  have FIN := Lib.hid fin
  clear fin
  cases h : isg B P I J g
  · have hz : spanA B P I J g = 0 ∧ spanB B P I J g = 0 ∧ spanE B P I J g = 22 := by simp [spanA, spanB, spanE, h]
    have HZ := Lib.hid hz
    by_cases hg : g < 0
    · clear hz h
      go_enter Try.func59, Try.ntmps59
      go_wp2_with (go_at_call 62; refine (lgroups_any _ _ _ _ _).mono ?_; rintro e w1 ⟨rfl, hb⟩)
      go_ret3
      obtain ⟨z1, z2, z3⟩ := HZ.out
      exact ⟨ret3 z1.symm z2.symm z3.symm, FIN.out⟩
    · have hg2 : grp B P I J ≤ g := by simp [isg] at h; omega
      clear hz h
      go_enter Try.func59, Try.ntmps59
      go_wp2_with (go_at_call 62; refine (lgroups_any _ _ _ _ _).mono ?_; rintro e w1 ⟨rfl, hb⟩; have HB := Lib.hid hb; clear hb)
      go_ret3
      obtain ⟨z1, z2, z3⟩ := HZ.out
      exact ⟨ret3 z1.symm z2.symm z3.symm, below_of_new HB.out⟩
  · obtain ⟨hgo, g0, g1⟩ := isg_true h
    have hg2 : g < grp B P I J := by rw [grp_yes hgo]; omega
    have hz : spanA B P I J g = g * P ∧ spanB B P I J g = (if g * P + P < B then g * P + P else B) ∧ spanE B P I J g = 0 := by simp [spanA, spanB, spanE, h]
    have HZ := Lib.hid hz
    have G := Geo.of hgo
    obtain ⟨x1, x2, x3⟩ := G.mul g0 g1
    have b1 := G.b1; have b2 := G.b2; have p1 := G.p1; have p2 := G.p2; have n1 := G.n1; have n2 := G.n2
    clear hz h G hgo g1 x2
    by_cases hm : B < g * P + P
    all_goals
      go_enter Try.func59, Try.ntmps59
      go_wp2_with (go_at_call 62; refine (lgroups_any _ _ _ _ _).mono ?_; rintro e w1 ⟨rfl, hb⟩; obtain ⟨c0, c1, c2, c3⟩ := geo_cell (by simpa using hb); have HB := Lib.hid hb; clear hb)
      go_quiet (fail)
      go_wp2
      go_ret3
      obtain ⟨z1, z2, z3⟩ := HZ.out
      refine ⟨ret3 z1.symm (z2.trans (by split <;> omega)).symm z3.symm, (below_of_new HB.out).trans ?_⟩
      exact ⟨rfl, rfl, rfl, Nat.le_refl _, fun _ _ => rfl⟩

theorem lplace_any (B P I J g : Int) (w : World) :
    Calls Try.prog 60 #[.agg #[.int .i64 B, .int .i64 P, .int .i64 I, .int .i64 J], .int .i64 g] w fun e w' =>
      e = .returned (.tuple #[.int .i64 (placeA B P I J g), .int .i64 (placeB B P I J g), .int .i64 (placeC B P I J g), .int .i64 (placeD B P I J g), .int .i64 (spanE B P I J g)]) ∧ Below w.heap.size w w' := by
  cases h : isg B P I J g
  · have hz : placeA B P I J g = 0 ∧ placeB B P I J g = 0 ∧ placeC B P I J g = 0 ∧ placeD B P I J g = 0 := by simp [placeA, placeB, placeC, placeD, h]
    have HZ := Lib.hid hz
    have hs : (spanE B P I J g != 0) = true := by simp [spanE, h]
    clear hz h
    go_enter Try.func60, Try.ntmps60
    go_wp2_with (go_at_call 59; refine (lspan_any _ _ _ _ _ _).mono ?_; rintro e w1 ⟨rfl, hb⟩; have HB := Lib.hid hb; clear hb)
    obtain ⟨z1, z2, z3, z4⟩ := HZ.out
    refine bodyPost_ret (results_tmp5 rfl _ _ _) rfl ?_
    exact ⟨ret5 z1.symm z2.symm z3.symm z4.symm rfl, below_of_new HB.out⟩
  · obtain ⟨hgo, g0, g1⟩ := isg_true h
    have hz : placeA B P I J g = base P J g ∧ placeB B P I J g = base P J g + 1 ∧ placeC B P I J g = base P J g + 2 ∧ placeD B P I J g = base P J g + 2 + I / 2 := by simp [placeA, placeB, placeC, placeD, h]
    have HZ := Lib.hid hz
    have G := Geo.of hgo
    obtain ⟨x1, x2, x3⟩ := G.mul g0 g1
    have hsa : spanA B P I J g = g * P := by simp [spanA, h]
    have HSA := Lib.hid hsa
    have hs : (spanE B P I J g != 0) = false := by simp [spanE, h]
    have i1 := G.i1; have i2 := G.i2; have j1 := G.j1; have j2 := G.j2
    by_cases hg : g = 0
    · have hba : base P J g = 2 + J := by simp [base, hg]
      have HBA := Lib.hid hba
      clear hba hsa hz h G hgo g1 x2
      have hg' : (g == 0) = true := by simp [hg]
      clear hg
      go_enter Try.func60, Try.ntmps60
      go_wp2_with (go_at_call 59; refine (lspan_any _ _ _ _ _ _).mono ?_; rintro e w1 ⟨rfl, hb⟩; obtain ⟨c0, c1, c2, c3⟩ := geo_cell (by simpa using hb); have HB := Lib.hid hb; clear hb)
      go_quiet (fail)
      go_wp2
      obtain ⟨z1, z2, z3, z4⟩ := HZ.out
      have hba := HBA.out
      refine bodyPost_ret (results_tmp5 rfl _ _ _) rfl ?_
      exact ⟨ret5 (z1.trans hba).symm (by rw [z2, hba]) (by rw [z3, hba]) (by rw [z4, hba]) (by simp at hs; exact hs.symm), below_drewN (below_of_new HB.out) _⟩
    · have hba : base P J g = g * P := by simp [base, hg]
      have HBA := Lib.hid hba
      have hg' : (g == 0) = false := by simp [hg]
      have y0 : 0 ≤ spanA B P I J g := by omega
      have y1 : spanA B P I J g ≤ 4095 := by omega
      clear hba hsa hz h G hgo g1 x2 hg
      go_enter Try.func60, Try.ntmps60
      go_wp2_with (go_at_call 59; refine (lspan_any _ _ _ _ _ _).mono ?_; rintro e w1 ⟨rfl, hb⟩; obtain ⟨c0, c1, c2, c3⟩ := geo_cell (by simpa using hb); have HB := Lib.hid hb; clear hb)
      go_quiet (fail)
      go_wp2
      obtain ⟨z1, z2, z3, z4⟩ := HZ.out
      have hba := HBA.out
      have hsa := HSA.out
      refine bodyPost_ret (results_tmp5 rfl _ _ _) rfl ?_
      exact ⟨ret5 (by rw [z1, hba, hsa]) (by rw [z2, hba, hsa]) (by rw [z3, hba, hsa]) (by rw [z4, hba, hsa]) (by simp at hs; exact hs.symm), below_drewN (below_of_new HB.out) _⟩

theorem linode_any (B P I J n : Int) (w : World) :
    Calls Try.prog 61 #[.agg #[.int .i64 B, .int .i64 P, .int .i64 I, .int .i64 J], .int .i64 n] w fun e w' =>
      e = .returned (.tuple #[.int .i64 (inoA B P I J n), .int .i64 (inoB B P I J n), .int .i64 (inoE B P I J n)]) ∧ Below w.heap.size w w' := by
  have fin := (Below.refl w.heap.size w).alloc (Nat.le_refl _) (.cells #[.int .i64 B, .int .i64 P, .int .i64 I, .int .i64 J] 37)
  have FIN := Lib.hid fin
  clear fin
  cases h : isi B P I J n
  · have hz : inoA B P I J n = 0 ∧ inoB B P I J n = 0 ∧ inoE B P I J n = 22 := by simp [inoA, inoB, inoE, h]
    have HZ := Lib.hid hz
    by_cases hn : n < 1
    · clear hz h
      go_enter Try.func61, Try.ntmps61
      go_wp2_with fail
      go_quiet (fail)
      go_wp2
      go_ret3
      obtain ⟨z1, z2, z3⟩ := HZ.out
      exact ⟨ret3 z1.symm z2.symm z3.symm, below_drewN FIN.out _⟩
    · have hn2 : grp B P I J * I < n := by simp [isi] at h; omega
      have hgr := grp_le B P I J
      obtain ⟨gr0, gr1⟩ := hgr
      have hw : IntKind.i64.wrap (grp B P I J * I) = grp B P I J * I := by
        cases hk : gok B P I J
        · rw [grp_no hk]; simp [IntKind.wrap_i64]
        · have G := Geo.of hk
          have i1 := G.i1; have i2 := G.i2
          have : grp B P I J * I ≤ 14 * 512 := Int.mul_le_mul gr1 i2 (by omega) (by omega)
          have : 0 ≤ grp B P I J * I := Int.mul_nonneg gr0 (by omega)
          rw [IntKind.wrap_i64]; omega
      have hd : decide (n < 1) = false := by simp; omega
      have hd2 : decide (grp B P I J * I < n) = true := by simpa using hn2
      clear hz h
      go_enter Try.func61, Try.ntmps61
      go_wp2_with fail
      go_region_held3 (fun w' => w'.cell? ⟨w.heap.size, 0, none⟩ = some (.int .i64 B) ∧ w'.cell? ⟨w.heap.size, 1, none⟩ = some (.int .i64 P) ∧ w'.cell? ⟨w.heap.size, 2, none⟩ = some (.int .i64 I) ∧ w'.cell? ⟨w.heap.size, 3, none⟩ = some (.int .i64 J))
        (first | go_keep | (refine ⟨?_, ?_, ?_, ?_⟩ <;> (rw [hb.cell (by simp)]; simp [go_sem])))
        (first | (go_simp; go_at_call 62; refine (lgroups_any _ _ _ _ _).mono ?_; rintro e w1 ⟨rfl, hb⟩))
      go_wp2
      go_ret3
      obtain ⟨z1, z2, z3⟩ := HZ.out
      exact ⟨ret3 z1.symm z2.symm z3.symm, FIN.out.drew.trans (hb.mono (by simp))⟩
  · obtain ⟨hgo, n0, n1⟩ := isi_true h
    have hz : inoA B P I J n = placeC B P I J ((n - 1) / I) + (n - 1) % I / 2 ∧ inoB B P I J n = (n - 1) % I % 2 * 128 ∧ inoE B P I J n = 0 := by simp [inoA, inoB, inoE, h]
    have HZ := Lib.hid hz
    have G := Geo.of hgo
    obtain ⟨x1, x2, x3, x4, x5⟩ := G.ino n0 n1
    have i1 := G.i1; have i2 := G.i2; have j1 := G.j1; have j2 := G.j2
    have hgg := grp_yes hgo
    have hle := G.n2
    have m1 : grp B P I J * I ≤ 14 * 512 := Int.mul_le_mul (by omega) i2 (by omega) (by omega)
    have m0 : 0 ≤ grp B P I J * I := Int.mul_nonneg (by have := G.n1; omega) (by omega)
    have hw : IntKind.i64.wrap (grp B P I J * I) = grp B P I J * I := by rw [IntKind.wrap_i64]; omega
    have hd : decide (n < 1) = false := by simp; omega
    have hd2 : decide (grp B P I J * I < n) = false := by rw [hgg]; simpa using n1
    obtain ⟨q0, q1⟩ : 0 ≤ placeC B P I J ((n - 1) / I) ∧ placeC B P I J ((n - 1) / I) ≤ 5000 := by
      have hi := isg_mk hgo x1 x2
      obtain ⟨y1, y2, y3⟩ := G.mul x1 x2
      simp only [placeC, hi, if_true, base]
      split <;> omega
    clear hz h hgg n1 m1 m0 hgo G x2
    go_enter Try.func61, Try.ntmps61
    go_wp2_with fail
    go_region_held3 (fun w' => w'.cell? ⟨w.heap.size, 0, none⟩ = some (.int .i64 B) ∧ w'.cell? ⟨w.heap.size, 1, none⟩ = some (.int .i64 P) ∧ w'.cell? ⟨w.heap.size, 2, none⟩ = some (.int .i64 I) ∧ w'.cell? ⟨w.heap.size, 3, none⟩ = some (.int .i64 J))
      (first | go_keep | (refine ⟨?_, ?_, ?_, ?_⟩ <;> (rw [hb.cell (by simp)]; simp [go_sem])))
      (first | (go_simp; go_at_call 62; refine (lgroups_any _ _ _ _ _).mono ?_; rintro e w1 ⟨rfl, hb⟩))
    clear hw
    obtain ⟨c0, c1, c2, c3⟩ : w1.cell? ⟨w.heap.size, 0, none⟩ = some (.int .i64 B) ∧ w1.cell? ⟨w.heap.size, 1, none⟩ = some (.int .i64 P) ∧ w1.cell? ⟨w.heap.size, 2, none⟩ = some (.int .i64 I) ∧ w1.cell? ⟨w.heap.size, 3, none⟩ = some (.int .i64 J) := by
      refine ⟨?_, ?_, ?_, ?_⟩ <;> (rw [hb.cell (by simp)]; simp [go_sem])
    have HB := Lib.hid hb
    clear hb
    go_wp2
    go_quiet (fail)
    go_wp2_with (go_at_call 60; refine (lplace_any _ _ _ _ _ _).mono ?_; rintro e w2 ⟨rfl, hb2⟩; have HB2 := Lib.hid hb2; clear hb2)
    go_ret3
    obtain ⟨z1, z2, z3⟩ := HZ.out
    exact ⟨ret3 z1.symm z2.symm z3.symm, (FIN.out.drew.trans (HB.out.mono (by simp))).trans ((below_drewN (Below.refl _ w1) nq).trans (HB2.out.mono (by have := HB.out.size; simp at this; simp; omega)))⟩
end Go.Proofs.Ytafonjnanfekkaa.Lay

namespace Go.Proofs.Ytafonjnanfekkaa.Lay
open Go.RowKit
set_option maxHeartbeats 8000000
set_option linter.unusedVariables false
set_option linter.unusedSimpArgs false

theorem lfixed_any (B P I J : Int) (w : World) :
    Calls Try.prog 63 #[.agg #[.int .i64 B, .int .i64 P, .int .i64 I, .int .i64 J]] w fun e w' => e = .returned (.int .i64 (fixd B P I J)) ∧ Below w.heap.size w w' := by
  have fin := (Below.refl w.heap.size w).alloc (Nat.le_refl _) (.cells #[.int .i64 B, .int .i64 P, .int .i64 I, .int .i64 J] 37)
  have FIN := Lib.hid fin
  clear fin
  obtain ⟨n, hn⟩ : ∃ n : Nat, (n : Int) = grp B P I J := ⟨(grp B P I J).toNat, by have := grp_le B P I J; omega⟩
  have hn14 : n ≤ 14 := by have := grp_le B P I J; omega
  have hsum : ∀ k : Nat, k ≤ n → 0 ≤ dsum B P I J k ∧ dsum B P I J k ≤ 4096 := by
    intro k hk
    cases hgo : gok B P I J
    · rw [grp_no hgo] at hn
      obtain rfl : k = 0 := by omega
      simp [dsum]
    · have := dsum_le hgo k (by rw [grp_yes hgo] at hn; omega)
      exact ⟨this.1, this.2.1⟩
  have HN := Lib.hid hn
  have HS := Lib.hid hsum
  clear hn hsum
  go_enter Try.func63, Try.ntmps63
  go_wp2_with (go_at_call 62; refine (lgroups_any _ _ _ _ _).mono ?_; rintro e w1 ⟨rfl, hb⟩; have HB := Lib.hid hb; clear hb; rw [← HN.out])
  go_loopw [3, 15] (fun s i wr => ∃ k : Nat, k ≤ n ∧ i = .int .i64 k ∧ s = .int .i64 (dsum B P I J k) ∧ Below (w.heap.size + 1) (w.alloc (.cells #[.int .i64 B, .int .i64 P, .int .i64 I, .int .i64 J] 37)) wr) (fun _ i _ => n - (intOf i).toNat)
  case atStart => exact ⟨0, Nat.zero_le _, rfl, rfl, HB.out.mono (by simp)⟩
  case round =>
    obtain ⟨k, hk, rfl, rfl, hbr⟩ := hrel
    obtain ⟨c0, c1, c2, c3⟩ := geo_cell hbr
    have HBR := Lib.hid hbr
    clear hbr
    by_cases hlt : k < n
    · have hs0 := HS.out k (by omega)
      have hs1 := HS.out (k + 1) (by omega)
      simp only [dsum] at hs1
      obtain ⟨a0, a1⟩ := hs0
      obtain ⟨a2, a3⟩ := hs1
      have hgo : gok B P I J = true := grp_pos (by have := HN.out; omega)
      obtain ⟨q0, q1, q2, q3⟩ : 0 ≤ spanB B P I J k ∧ spanB B P I J k ≤ 4096 ∧ 0 ≤ placeD B P I J k ∧ placeD B P I J k ≤ 6000 := by
        have G := Geo.of hgo
        have hn := HN.out
        rw [grp_yes hgo] at hn
        have hi := isg_mk hgo (g := k) (by omega) (by omega)
        obtain ⟨y1, y2, y3⟩ := G.mul (g := k) (by omega) (by omega)
        have b2 := G.b2; have b1 := G.b1; have j2 := G.j2; have i2 := G.i2; have i1 := G.i1; have p1 := G.p1; have j1 := G.j1
        simp only [spanB, placeD, base, hi, if_true]
        refine ⟨?_, ?_, ?_, ?_⟩ <;> (split <;> omega)
      have hds : dsum B P I J (k + 1) = dsum B P I J k + (spanB B P I J k - placeD B P I J k) := rfl
      have HDS := Lib.hid hds
      clear hds
      go_wp2_with (go_at_call 59; refine (lspan_any _ _ _ _ _ _).mono ?_; rintro e w2 ⟨rfl, hb2⟩; obtain ⟨c0', c1', c2', c3'⟩ := geo_cell (HBR.out.trans (hb2.mono (by have := HBR.out.size; simpa using this))); have HB2 := Lib.hid hb2; clear hb2 c0 c1 c2 c3)
      go_wp2_with (go_at_call 60; refine (lplace_any _ _ _ _ _ _).mono ?_; rintro e w3 ⟨rfl, hb3⟩; have HB3 := Lib.hid hb3; clear hb3)
      go_roundw
      case rel => exact ⟨k + 1, by omega, by go_num, by rw [HDS.out], (HBR.out.trans (HB2.out.mono (by have := HBR.out.size; simpa using this))).trans (HB3.out.mono (by have := HBR.out.size; have := HB2.out.size; simp at *; omega))⟩
      case measure => simp [intOf]; omega
    · obtain rfl : k = n := by omega
      clear hlt
      cases hgo : gok B P I J
      · have h0 : k = 0 := by have := HN.out; rw [grp_no hgo] at this; omega
        have hd : (dsum B P I J k == 0) = true := by rw [h0]; rfl
        have hf : fixd B P I J = 0 := by simp [fixd, hgo]
        have HF := Lib.hid hf
        clear hf h0 hgo
        go_wp2_with fail
        go_ret
        exact ⟨ret_int HF.out.symm, FIN.out.trans (HBR.out.mono (by omega))⟩
      · have G := Geo.of hgo
        have b1 := G.b1; have b2 := G.b2; have n1 := G.n1
        have hds := dsum_le hgo k (by have := HN.out; rw [grp_yes hgo] at this; omega)
        have h0 : 0 < k := by have := HN.out; rw [grp_yes hgo] at this; omega
        obtain ⟨a0, a1, a2⟩ := hds
        have a3 := a2 h0
        have hd : (dsum B P I J k == 0) = false := by simp; omega
        have hf := fixd_eq hgo k HN.out
        have HF := Lib.hid hf
        clear hf hgo G a2
        go_wp2_with fail
        go_ret
        exact ⟨ret_int HF.out, FIN.out.trans (HBR.out.mono (by omega))⟩
end Go.Proofs.Ytafonjnanfekkaa.Lay

namespace Go.Proofs.Ytafonjnanfekkaa.Lay
open Go.RowKit
set_option maxHeartbeats 8000000
set_option linter.unusedVariables false
set_option linter.unusedSimpArgs false

theorem within_any (x lo hi : Int) (w : World) :
    Calls Try.prog 75 #[.int .i64 x, .int .i64 lo, .int .i64 hi] w fun e w' => e = .returned (.bool (rg x lo hi)) ∧ w = w' := by
  by_cases h : lo ≤ x
  · go_enter Try.func75, Try.ntmps75
    go_wp2
    go_ret
    simp [rg, h]
  · go_enter Try.func75, Try.ntmps75
    go_wp2
    go_ret
    simp [rg]; omega

theorem ceil_eq (B P : Int) (hP : 0 < P) : (B + P - 1) / P = (B - 1) / P + 1 := by
  rw [show B + P - 1 = (B - 1) + 1 * P by omega, Int.add_mul_ediv_right _ _ (by omega)]

theorem rgroups_any (B P I J : Int) (w : World) (b1 : 128 ≤ B) (b2 : B ≤ 4096) (p1 : 32 ≤ P) (p2 : P ≤ 2016) :
    Calls Try.prog 107 #[.agg #[.int .i64 B, .int .i64 P, .int .i64 I, .int .i64 J]] w fun e w' => e = .returned (.int .i64 ((B - 1) / P + 1)) ∧ Below w.heap.size w w' := by
  have fin := (Below.refl w.heap.size w).alloc (Nat.le_refl _) (.cells #[.int .i64 B, .int .i64 P, .int .i64 I, .int .i64 J] 37)
  have FIN := Lib.hid fin
  clear fin
  have d1 : 0 ≤ (B + P - 1) / P := Int.ediv_nonneg (by omega) (by omega)
  have d2 : (B + P - 1) / P ≤ B + P - 1 := Int.ediv_le_self _ (by omega)
  go_enter Try.func107, Try.ntmps107
  go_wp2
  go_ret
  exact ⟨ret_int (ceil_eq B P (by omega)), FIN.out⟩

theorem rcheck_out (B P I J : Int) (w : World) (h : chk1 B P I J = false) :
    Calls Try.prog 106 #[.agg #[.int .i64 B, .int .i64 P, .int .i64 I, .int .i64 J]] w fun e w' => e = .returned (.int .i64 22) ∧ Below w.heap.size w w' := by
  unfold chk1 at h
  have fin := (Below.refl w.heap.size w).alloc (Nat.le_refl _) (.cells #[.int .i64 B, .int .i64 P, .int .i64 I, .int .i64 J] 37)
  have FIN := Lib.hid fin
  clear fin
  cases h1 : rg B 128 4096
  · clear h
    go_enter Try.func106, Try.ntmps106
    go_wp2_with (go_at_call 75; refine (within_any _ _ _ _).mono ?_; rintro e w' ⟨rfl, rfl⟩)
    go_ret
    exact ⟨rfl, FIN.out⟩
  cases h2 : rg P 32 2016
  · clear h
    go_enter Try.func106, Try.ntmps106
    go_wp2_with (go_at_call 75; refine (within_any _ _ _ _).mono ?_; rintro e w' ⟨rfl, rfl⟩)
    go_ret
    exact ⟨rfl, FIN.out⟩
  cases h3 : rg I 8 512
  · clear h
    go_enter Try.func106, Try.ntmps106
    go_wp2_with (go_at_call 75; refine (within_any _ _ _ _).mono ?_; rintro e w' ⟨rfl, rfl⟩)
    go_ret
    exact ⟨rfl, FIN.out⟩
  obtain ⟨i1, i2⟩ := rg_true h3
  simp only [h1, h2, h3, Bool.true_and] at h
  cases h4 : (I % 2 == 0)
  · have h4' : (I % 2 != 0) = true := by simpa using h4
    clear h h4
    go_enter Try.func106, Try.ntmps106
    go_wp2_with (go_at_call 75; refine (within_any _ _ _ _).mono ?_; rintro e w' ⟨rfl, rfl⟩)
    go_ret
    exact ⟨rfl, FIN.out⟩
  · have h4' : (I % 2 != 0) = false := by simpa using h4
    have h5 : rg J 96 512 = false := by simpa [h4] using h
    clear h h4
    go_enter Try.func106, Try.ntmps106
    go_wp2_with (go_at_call 75; refine (within_any _ _ _ _).mono ?_; rintro e w' ⟨rfl, rfl⟩)
    go_ret
    exact ⟨rfl, FIN.out⟩

theorem rcheck_in (B P I J : Int) (w : World) (h : chk1 B P I J = true) :
    Calls Try.prog 106 #[.agg #[.int .i64 B, .int .i64 P, .int .i64 I, .int .i64 J]] w fun e w' => e = .returned (.int .i64 (chk B P I J)) ∧ Below w.heap.size w w' := by
  obtain ⟨b1, b2, p1, p2, i1, i2, i3, j1, j2⟩ := chk1_true h
  have s1 : rg B 128 4096 = true := by simp [rg, *]
  have s2 : rg P 32 2016 = true := by simp [rg, *]
  have s3 : rg I 8 512 = true := by simp [rg, *]
  have s4 : rg J 96 512 = true := by simp [rg, *]
  have s5 : (I % 2 != 0) = false := by simp [i3]
  have hno : chk2 B P I J = false → (22 : Int) = chk B P I J := fun e => by simp [chk, gok, h, e]
  have HNO := Lib.hid hno
  have hye : chk2 B P I J = true → (0 : Int) = chk B P I J := fun e => by simp [chk, gok, h, e]
  have HYE := Lib.hid hye
  clear hno hye
  clear i3 h
  have d1 : 0 ≤ (B - 1) / P := Int.ediv_nonneg (by omega) (by omega)
  have d2 : (B - 1) / P ≤ B - 1 := Int.ediv_le_self _ (by omega)
  have m1 : 0 ≤ (B - 1) % P := Int.emod_nonneg _ (by omega)
  have m2 : (B - 1) % P < P := Int.emod_lt_of_pos _ (by omega)
  have dm : P * ((B - 1) / P) + (B - 1) % P = B - 1 := Int.mul_ediv_add_emod _ _
  have e1 : (B - 1) / P * P = B - 1 - (B - 1) % P := by rw [Int.mul_comm]; omega
  have t1 : 0 ≤ (B - 1) / P * P := Int.mul_nonneg d1 (by omega)
  have t2 : (B - 1) / P * P ≤ 4096 := by omega
  have E1 := Lib.hid e1
  clear e1 dm
  have fin := (Below.refl w.heap.size w).alloc (Nat.le_refl _) (.cells #[.int .i64 B, .int .i64 P, .int .i64 I, .int .i64 J] 37)
  have FIN := Lib.hid fin
  clear fin
  by_cases q1 : 14 ≤ (B - 1) / P
  · have q : chk2 B P I J = false := by simp [chk2]; omega
    have Q := Lib.hid q
    clear q
    go_enter Try.func106, Try.ntmps106
    go_wp2_with (first | (go_at_call 75; refine (within_any _ _ _ _).mono ?_; rintro e w' ⟨rfl, rfl⟩) | (go_at_call 107; refine (rgroups_any _ _ _ _ _ (by assumption) (by assumption) (by assumption) (by assumption)).mono ?_; rintro e w1 ⟨rfl, hb⟩; obtain ⟨c0, c1, c2, c3⟩ := geo_cell (by simpa using hb); have HB := Lib.hid hb; clear hb))
    all_goals
      go_ret
      exact ⟨ret_int (HNO.out Q.out), below_of_new HB.out⟩
  by_cases q2 : 5 + J + I / 2 ≤ P
  · by_cases q3 : 5 + J + I / 2 ≤ B
    · by_cases q4 : 3 + I / 2 ≤ B - (B - 1) / P * P
      · have q : chk2 B P I J = true := by have := E1.out; simp [chk2]; omega
        have Q := Lib.hid q
        clear q
        go_enter Try.func106, Try.ntmps106
        go_wp2_with (first | (go_at_call 75; refine (within_any _ _ _ _).mono ?_; rintro e w' ⟨rfl, rfl⟩) | (go_at_call 107; refine (rgroups_any _ _ _ _ _ (by assumption) (by assumption) (by assumption) (by assumption)).mono ?_; rintro e w1 ⟨rfl, hb⟩; obtain ⟨c0, c1, c2, c3⟩ := geo_cell (by simpa using hb); have HB := Lib.hid hb; clear hb))
        all_goals
          go_ret
          exact ⟨ret_int (HYE.out Q.out), below_of_new HB.out⟩
      · have q : chk2 B P I J = false := by have := E1.out; simp [chk2]; omega
        have Q := Lib.hid q
        clear q
        go_enter Try.func106, Try.ntmps106
        go_wp2_with (first | (go_at_call 75; refine (within_any _ _ _ _).mono ?_; rintro e w' ⟨rfl, rfl⟩) | (go_at_call 107; refine (rgroups_any _ _ _ _ _ (by assumption) (by assumption) (by assumption) (by assumption)).mono ?_; rintro e w1 ⟨rfl, hb⟩; obtain ⟨c0, c1, c2, c3⟩ := geo_cell (by simpa using hb); have HB := Lib.hid hb; clear hb))
        all_goals
          go_ret
          exact ⟨ret_int (HNO.out Q.out), below_of_new HB.out⟩
    · have q : chk2 B P I J = false := by simp [chk2]; omega
      have Q := Lib.hid q
      clear q
      have hm : B < P := by omega
      go_enter Try.func106, Try.ntmps106
      go_wp2_with (first | (go_at_call 75; refine (within_any _ _ _ _).mono ?_; rintro e w' ⟨rfl, rfl⟩) | (go_at_call 107; refine (rgroups_any _ _ _ _ _ (by assumption) (by assumption) (by assumption) (by assumption)).mono ?_; rintro e w1 ⟨rfl, hb⟩; obtain ⟨c0, c1, c2, c3⟩ := geo_cell (by simpa using hb); have HB := Lib.hid hb; clear hb))
      all_goals
        go_ret
        exact ⟨ret_int (HNO.out Q.out), below_of_new HB.out⟩
  · have q : chk2 B P I J = false := by simp [chk2]; omega
    have Q := Lib.hid q
    clear q
    by_cases hm : B < P
    · have q3 : ¬ 5 + J + I / 2 ≤ B := by omega
      go_enter Try.func106, Try.ntmps106
      go_wp2_with (first | (go_at_call 75; refine (within_any _ _ _ _).mono ?_; rintro e w' ⟨rfl, rfl⟩) | (go_at_call 107; refine (rgroups_any _ _ _ _ _ (by assumption) (by assumption) (by assumption) (by assumption)).mono ?_; rintro e w1 ⟨rfl, hb⟩; obtain ⟨c0, c1, c2, c3⟩ := geo_cell (by simpa using hb); have HB := Lib.hid hb; clear hb))
      all_goals
        go_ret
        exact ⟨ret_int (HNO.out Q.out), below_of_new HB.out⟩
    · go_enter Try.func106, Try.ntmps106
      go_wp2_with (first | (go_at_call 75; refine (within_any _ _ _ _).mono ?_; rintro e w' ⟨rfl, rfl⟩) | (go_at_call 107; refine (rgroups_any _ _ _ _ _ (by assumption) (by assumption) (by assumption) (by assumption)).mono ?_; rintro e w1 ⟨rfl, hb⟩; obtain ⟨c0, c1, c2, c3⟩ := geo_cell (by simpa using hb); have HB := Lib.hid hb; clear hb))
      all_goals
        go_ret
        exact ⟨ret_int (HNO.out Q.out), below_of_new HB.out⟩

theorem rcheck_any (B P I J : Int) (w : World) :
    Calls Try.prog 106 #[.agg #[.int .i64 B, .int .i64 P, .int .i64 I, .int .i64 J]] w fun e w' => e = .returned (.int .i64 (chk B P I J)) ∧ Below w.heap.size w w' := by
  cases h : chk1 B P I J
  · refine (rcheck_out B P I J w h).mono fun e w' ⟨he, hw⟩ => ⟨he.trans (ret_int ?_), hw⟩
    simp [chk, gok, h]
  · exact rcheck_in B P I J w h

theorem rGroups_any (B P I J : Int) (w : World) :
    Calls Try.prog 94 #[.agg #[.int .i64 B, .int .i64 P, .int .i64 I, .int .i64 J]] w fun e w' => e = .returned (.int .i64 (grp B P I J)) ∧ Below w.heap.size w w' := by
  cases h : gok B P I J
  · have hc : (chk B P I J != 0) = true := by simp [chk, h]
    have hz := grp_no h
    have HZ := Lib.hid hz
    clear hz h
    go_enter Try.func94, Try.ntmps94
    go_wp2_with (go_at_call 106; refine (rcheck_any _ _ _ _ _).mono ?_; rintro e w1 ⟨rfl, hb⟩)
    go_ret
    exact ⟨ret_int HZ.out.symm, below_of_new hb⟩
  · have hc : (chk B P I J != 0) = false := by simp [chk, h]
    have hz := grp_yes h
    have HZ := Lib.hid hz
    have G := Geo.of h
    have b1 := G.b1; have b2 := G.b2; have p1 := G.p1; have p2 := G.p2
    clear hz h G
    go_enter Try.func94, Try.ntmps94
    go_wp2_with (first | (go_at_call 106; refine (rcheck_any _ _ _ _ _).mono ?_; rintro e w1 ⟨rfl, hb⟩; obtain ⟨g0, g1, g2, g3⟩ := geo_cell (by simpa using hb); have HB := Lib.hid hb; clear hb) | (go_at_call 107; refine (rgroups_any _ _ _ _ _ (by assumption) (by assumption) (by assumption) (by assumption)).mono ?_; rintro e w2 ⟨rfl, hb2⟩; have HB2 := Lib.hid hb2; clear hb2))
    go_ret
    exact ⟨ret_int HZ.out.symm, (below_of_new HB.out).trans (HB2.out.mono (below_of_new HB.out).size)⟩
end Go.Proofs.Ytafonjnanfekkaa.Lay

namespace Go.Proofs.Ytafonjnanfekkaa.Lay
open Go.RowKit
set_option maxHeartbeats 8000000
set_option linter.unusedVariables false
set_option linter.unusedSimpArgs false

theorem rfixed_any (B P I J : Int) (w : World) :
    Calls Try.prog 95 #[.agg #[.int .i64 B, .int .i64 P, .int .i64 I, .int .i64 J]] w fun e w' => e = .returned (.int .i64 (fixd B P I J)) ∧ Below w.heap.size w w' := by
  cases h : gok B P I J
  · have hz : fixd B P I J = 0 := by simp [fixd, h]
    have HZ := Lib.hid hz
    have hg : (grp B P I J == 0) = true := by simp [grp, h]
    clear hz h
    go_enter Try.func95, Try.ntmps95
    go_wp2_with (go_at_call 94; refine (rGroups_any _ _ _ _ _).mono ?_; rintro e w1 ⟨rfl, hb⟩; have HB := Lib.hid hb; clear hb)
    go_ret
    exact ⟨ret_int HZ.out.symm, below_of_new HB.out⟩
  · have G := Geo.of h
    have n1 := G.n1; have n2 := G.n2; have i1 := G.i1; have i2 := G.i2; have j1 := G.j1; have j2 := G.j2
    have hgy := grp_yes h
    have hz : fixd B P I J = 2 + J + grp B P I J * (2 + I / 2) := by rw [hgy]; simp [fixd, h]
    have HZ := Lib.hid hz
    have hg : (grp B P I J == 0) = false := by rw [hgy]; simp; omega
    have hi0 : 0 ≤ I / 2 := Int.ediv_nonneg (by omega) (by omega)
    have m0 : 0 ≤ grp B P I J * (2 + I / 2) := Int.mul_nonneg (by omega) (by omega)
    have m1 : grp B P I J * (2 + I / 2) ≤ 14 * 258 := Int.mul_le_mul (by omega) (by omega) (by omega) (by omega)
    clear hz h hgy G n1 n2
    go_enter Try.func95, Try.ntmps95
    go_wp2_with (go_at_call 94; refine (rGroups_any _ _ _ _ _).mono ?_; rintro e w1 ⟨rfl, hb⟩; obtain ⟨c0, c1, c2, c3⟩ := geo_cell (by simpa using hb); have HB := Lib.hid hb; clear hb)
    go_ret
    exact ⟨ret_int HZ.out.symm, below_of_new HB.out⟩

end Go.Proofs.Ytafonjnanfekkaa.Lay

namespace Go.Proofs.Ytafonjnanfekkaa.Lay
open Go.RowKit Go.Proofs.Ytafonjnanfekkaa.Wire
set_option maxHeartbeats 8000000
set_option maxRecDepth 100000
set_option linter.unusedVariables false
set_option linter.unusedSimpArgs false

/-- The numbers that come one behind the other, from a place on. -/
def recs (bs : List UInt8) : Int → List Int → List Int
  | _, [] => []
  | p, z :: ws => (getX bs p z : Int) :: recs bs (p + z) ws
theorem recs_length (bs : List UInt8) : ∀ (ws : List Int) (p : Int), (recs bs p ws).length = ws.length
  | [], _ => rfl
  | z :: ws, p => by simp [recs, recs_length bs ws]
theorem recs_at (bs : List UInt8) : ∀ (ws : List Int) (p : Int) (k : Nat) (z : Int), ws[k]? = some z → (recs bs p ws)[k]? = some ((getX bs (p + (ws.take k).sum) z : Int))
  | [], _, _, _, h => by simp at h
  | y :: ws, p, 0, z, h => by simp at h; subst h; simp [recs]
  | y :: ws, p, k + 1, z, h => by
    simp only [recs, List.getElem?_cons_succ, List.take_succ_cons, List.sum_cons]
    rw [recs_at bs ws (p + y) k z (by simpa using h), Int.add_assoc]
theorem getX_lt (bs : List UInt8) (p z : Int) (hz : z ≤ 4) : getX bs p z < 4294967296 := by
  unfold getX
  split
  · rename_i hf
    have hl := sub_length hf
    have := num_lt (sub bs p z)
    have h2 : 256 ^ (sub bs p z).length ≤ 256 ^ 4 := Nat.pow_le_pow_right (by omega) (by omega)
    omega
  · omega

theorem numbers_any4 (A : Option Addr) (n c : Nat) (l : List Nat) (w : World) (hn : n ≤ 17592186044415) (hr : RowAt w A n (ints (l.map fun (x : Nat) => (x : Int)))) (h63 : ∀ x ∈ l, x ≤ 9223372036854775807) :
    Calls Try.prog 66 #[.slice A n c] w fun e w' => ∃ v, e = .returned v ∧ Below w.heap.size w w' ∧ w'.ownsRow w.heap.size 84 1 v n (nums l) := by
  have hlw : l.length = n := by have := hr.len; simpa [ints] using this
  have HR := Lib.hid hr
  have HLW := Lib.hid hlw
  have H63 := Lib.hid h63
  clear hr hlw h63
  go_enter Try.func66, Try.ntmps66
  go_wp2_with fail
  go_loopw [3, 8] (fun v i wr => ∃ (k : Nat), k ≤ n ∧ i = .int .i64 k ∧ wr.ownsRow w.heap.size 84 1 v k (nums (l.take k)) ∧ Below w.heap.size w wr) (fun _ i _ => n - (intOf i).toNat)
  case atStart => exact ⟨0, by omega, rfl, World.ownsRow_nil _ _ _ _, Below.refl _ _⟩
  case round =>
    obtain ⟨k, hk, rfl, hown, hbel⟩ := hrel
    have hsz := hbel.size
    by_cases hlt : k < n
    · obtain ⟨a, z, rfl, hz, hcz0⟩ := HR.out.int_at hlt
      rw [List.getElem?_map, List.getElem?_eq_getElem (by have := HLW.out; omega)] at hz
      obtain ⟨y, hy⟩ : ∃ y, l[k]? = some y := ⟨_, List.getElem?_eq_getElem (by have := HLW.out; omega)⟩
      have hzy : z = (y : Int) := by
        rw [List.getElem?_eq_getElem (by have := HLW.out; omega)] at hy
        simp at hz hy; rw [← hz, hy]
      subst hzy
      have y63 : y ≤ 9223372036854775807 := H63.out y (List.mem_of_getElem? hy)
      have hlt0 := World.block_lt_of_cell? w _ hcz0
      have hcz := (hbel.cell hlt0).trans hcz0
      have htk : l.take (k + 1) = l.take k ++ [y] := by rw [List.take_add_one, hy]; rfl
      have X5 := Lib.hid hown
      have X6 := Lib.hid hbel
      have X7 := Lib.hid htk
      clear hown hbel htk hy hz
      go_wp2_with (first
        | (at_builtin
           refine app_u64 _ rfl (.tmp 12) (.tmp 15) rfl w.heap.size u3 k (nums (l.take k)) rfl (X5.out.alloc _) ⟨wr.heap.size, 0, none⟩ 1 y rfl (by simp) (by omega) (by simp; omega) ?_
           intro v' w2 hown2 hg2
           have bel2 := Lib.hid (below_row (X6.out.alloc hsz (.cells #[.int .u64 (y : Int)] 84)) hg2 (fun g e => (X5.out.lt g e).1) (by simp; omega))
           have own2 := Lib.hid hown2
           clear hown2 hg2)
        | fail)
      go_roundw
      case rel => exact ⟨k + 1, by omega, by go_num, by rw [X7.out, nums, List.map_append]; exact own2.out, bel2.out⟩
      case measure => simp [intOf]; omega
    · obtain rfl : k = n := by omega
      have hul : l.take k = l := List.take_of_length_le (by rw [HLW.out]; exact Nat.le_refl _)
      rw [hul] at hown
      have X5 := Lib.hid hown
      have X6 := Lib.hid hbel
      clear hown hbel hul
      go_wp2_with fail
      go_ret
      exact ⟨_, rfl, X6.out, X5.out⟩

/-- The widths of the first block's numbers. -/
def superWs : List Int := [4, 2, 4, 4, 4, 4, 4, 4, 4, 4, 1]
theorem widths_any (w : World) : Calls Try.prog 67 #[] w fun e w' => ∃ v, e = .returned v ∧ Below w.heap.size w w' ∧ w'.ownsRow w.heap.size 3 1 v 11 (ints superWs) := by
  have hl := lit_ownN w 3 1 (ints superWs) 11 rfl (by unfold maxLen; omega)
  have HL := Lib.hid hl
  have HB := Lib.hid ((Below.refl w.heap.size w).alloc (Nat.le_refl _) (.cells (ints superWs).toArray 3))
  clear hl
  go_enter Try.func67, Try.ntmps67
  go_wp2
  go_ret
  exact ⟨_, rfl, HB.out, HL.out⟩

theorem rep3 (m : Nat) : ints (List.replicate (m + 3) 4) = ints (List.replicate m 4) ++ ints [4, 4, 4] := by
  rw [show ([4, 4, 4] : List Int) = List.replicate 3 4 from rfl, ints, ints, ints, ← List.map_append, List.replicate_append_replicate]
theorem gwidths_any (n : Nat) (w : World) (hn : n ≤ 1048576) : Calls Try.prog 74 #[.int .i64 (n : Int)] w fun e w' => ∃ v, e = .returned v ∧ Below w.heap.size w w' ∧ w'.ownsRow w.heap.size 3 1 v (3 * n) (ints (List.replicate (3 * n) 4)) := by
  go_enter Try.func74, Try.ntmps74
  go_wp2_with fail
  go_loopw [3, 5] (fun v i wr => ∃ (k : Nat), k ≤ n ∧ i = .int .i64 k ∧ wr.ownsRow w.heap.size 3 1 v (3 * k) (ints (List.replicate (3 * k) 4)) ∧ Below w.heap.size w wr) (fun _ i _ => n - (intOf i).toNat)
  case atStart => exact ⟨0, by omega, rfl, World.ownsRow_nil _ _ _ _, Below.refl _ _⟩
  case round =>
    obtain ⟨k, hk, rfl, hown, hbel⟩ := hrel
    have hsz := hbel.size
    by_cases hlt : k < n
    · have X5 := Lib.hid hown
      have X6 := Lib.hid hbel
      have XL := Lib.hid (lit_rowN wr 3 (ints [4, 4, 4]) 3 wr.heap.size rfl rfl)
      clear hown hbel
      go_wp2_with (first
        | (at_builtin
           refine app_i64 _ rfl (.tmp 7) (.tmp 8) rfl w.heap.size u3 (3 * k) (ints (List.replicate (3 * k) 4)) rfl (X5.out.alloc _) (some ⟨wr.heap.size, 0, none⟩) 3 3 [4, 4, 4] rfl (fun e => by cases e) XL.out (by omega) (by simp; omega) ?_
           intro v' w2 hown2 hg2
           have bel2 := Lib.hid (below_row (X6.out.alloc hsz (.cells (ints [4, 4, 4]).toArray 3)) hg2 (fun g e => (X5.out.lt g e).1) (by simp; omega))
           have own2 := Lib.hid hown2
           clear hown2 hg2)
        | fail)
      go_roundw
      case rel => exact ⟨k + 1, by omega, by go_num, by
        rw [show 3 * (k + 1) = 3 * k + 3 by omega, rep3]; exact own2.out, bel2.out⟩
      case measure => simp [intOf]; omega
    · obtain rfl : k = n := by omega
      have X5 := Lib.hid hown
      have X6 := Lib.hid hbel
      clear hown hbel
      go_wp2_with fail
      go_ret
      exact ⟨_, rfl, X6.out, X5.out⟩

theorem sealB_length (seed : BitVec 32) (bs : List UInt8) : (sealB seed bs).length = bs.length := by
  unfold sealB
  split
  · simp [le_length]; omega
  · rfl
theorem seal_any (base n c : Nat) (A : Option Addr) (bs : List UInt8) (seed : BitVec 32) (w : World) (hbl : bs.length = n)
    (hown : w.ownsRow base 5 1 (.slice A n c) n (bvl bs)) :
    Calls Try.prog 19 #[.slice A n c, .int .u32 (seed.toNat : Int)] w fun e w' => e = .returned (.int .i64 (sealE n)) ∧
      w'.ownsRow base 5 1 (.slice A n c) n (bvl (sealB seed bs)) ∧ w.grownBy w' (Value.slice A n c).ownBlock := by
  by_cases h0 : 0 < n
  · obtain ⟨g, cap, cs, e, _, _, _, _, _⟩ := own_form hown h0
    injection e with e1 e2 e3
    subst e1 e3
    refine (seal_row base g n c n bs [] seed w hbl (Nat.le_refl _) (by rw [List.append_nil]; exact hown)).mono ?_
    rintro e w' ⟨he, ho, hg⟩
    rw [List.append_nil] at ho
    exact ⟨he, ho, hg⟩
  · obtain rfl : n = 0 := by omega
    refine (seal_no A 0 c seed w (by omega) (by omega)).mono ?_
    rintro e w' ⟨he, hb⟩
    exact ⟨he, by rw [show sealB seed bs = bs by rw [sealB, if_neg (by omega)]]; exact own_below hown hb, only_of_below hb _⟩

theorem packB_lenle (l : List Nat) (ws : List Int) (size : Int) (hs : size ≤ 4096) : (packB l ws size).length ≤ 4096 := by
  unfold packB
  split
  · rename_i hm
    simp only [pmay, Bool.and_eq_true, decide_eq_true_eq] at hm
    obtain ⟨m1, m2, m3, m4⟩ := hm
    cases hp : packs l ws with
    | none => simp
    | some bs =>
      have hbl : bs = pre l ws l.length := by
        rcases first_big l ws m1 with hbig | ⟨j, x, z, j1, j2, j3, _⟩
        · have := packs_some l ws m1 hbig
          rw [hp] at this; injection this
        · have := packs_none l ws j x z j1 j2 j3
          rw [hp] at this; cases this
      have hpl := pre_length l ws l.length m1 m2
      rw [m1, List.take_length, ← m1, ← hbl] at hpl
      simp; omega
  · simp
theorem sealed_lay (A0 A1 : Option Addr) (n0 c0 n1 c1 : Nat) (l : List Nat) (ws : List Int) (seed : BitVec 32) (w : World) (hn : n1 ≤ 1125899906842624) (h64 : ∀ x ∈ l, x < 18446744073709551616)
    (hl : RowAt w A0 n0 (nums l)) (hr : RowAt w A1 n1 (ints ws)) :
    Calls Try.prog 65 #[.slice A0 n0 c0, .slice A1 n1 c1, .int .u32 (seed.toNat : Int)] w fun e w' => ∃ v, e = .returned v ∧ Below w.heap.size w w' ∧
      w'.ownsRow w.heap.size 5 1 v (sealB seed (packB l ws 256)).length (bvl (sealB seed (packB l ws 256))) := by
  have HP := Lib.hid (pack_any A0 A1 n0 c0 n1 c1 l ws 256 w hn h64 hl hr)
  have hsl := sealB_length seed (packB l ws 256)
  clear hl hr h64
  go_enter Try.func65, Try.ntmps65
  go_wp2_with fail
  refine HP.out.mono ?_
  rintro e w1 ⟨v, rfl, hb1, ho1⟩
  generalize hpb : packB l ws 256 = pb at *
  have HPB := Lib.hid hpb
  clear hpb
  obtain ⟨A, c, rfl, _, _, _, _, _⟩ := own_slice ho1
  obtain ⟨n, hpn⟩ : ∃ n, pb.length = n := ⟨_, rfl⟩
  rw [hpn] at ho1 hsl ⊢
  have HS := Lib.hid (seal_any _ n c A pb seed w1 hpn ho1)
  have B1 := Lib.hid hb1
  have O1 := Lib.hid ho1
  have HSL := Lib.hid hsl
  clear hb1 ho1 hpn hsl
  go_wp2_with fail
  refine HS.out.mono ?_
  rintro e w2 ⟨rfl, ho2, hg2⟩
  have O2 := Lib.hid ho2
  have B2 := Lib.hid (below_own O1.out B1.out (Nat.le_refl _) hg2)
  clear ho2 hg2
  go_wp2_with fail
  go_ret
  refine ⟨_, rfl, B2.out, ?_⟩
  rw [HPB.out, HSL.out]
  exact O2.out

theorem record_any (A0 A1 : Option Addr) (n c0 len c1 : Nat) (ws : List Int) (bs : List UInt8) (w : World) (hn : n ≤ 1048576) (hl : len ≤ c1) (hc1 : c1 ≤ 9223372036854775807)
    (hr : RowAt w A0 n (ints ws)) (hb : BytesAt w A1 len bs) (hw : wok ws = true) (h4 : ∀ z ∈ ws, z ≤ 4) :
    Calls Try.prog 71 #[.slice A1 len c1, .slice A0 n c0] w fun e w' => ∃ v, e = .returned v ∧ Below w.heap.size w w' ∧
      w'.ownsRow w.heap.size 3 1 v n (ints (recs bs 0 ws)) := by
  have hlw : ws.length = n := by have := hr.len; simpa [ints] using this
  have hwl := (wsum_le ws hw).2
  have HW := Lib.hid hw
  have H4 := Lib.hid h4
  have HR := Lib.hid hr
  have HB := Lib.hid hb
  have HLW := Lib.hid hlw
  rw [hlw] at hwl
  clear hr hb hw hlw h4
  go_enter Try.func71, Try.ntmps71
  go_wp2_with fail
  go_loopw [5, 6, 8, 9, 10, 13] (fun v p _ _ _ i wr => ∃ (k s : Nat), k ≤ n ∧ i = .int .i64 k ∧ (s : Int) = (ws.take k).sum ∧ p = .int .i64 s ∧
    wr.ownsRow w.heap.size 3 1 v k (ints ((recs bs 0 ws).take k)) ∧ Below w.heap.size w wr) (fun _ _ _ _ _ i _ => n - (intOf i).toNat)
  case atStart => exact ⟨0, 0, by omega, rfl, by simp, rfl, World.ownsRow_nil _ _ _ _, Below.refl _ _⟩
  case round =>
    obtain ⟨k, s, hk, rfl, hs, rfl, hown, hbel⟩ := hrel
    have hsz := hbel.size
    obtain ⟨s0, s1⟩ := wsum_mono HW.out k
    by_cases hlt : k < n
    · obtain ⟨a, z, rfl, hz, hcz0⟩ := HR.out.int_at hlt
      have hlt0 := World.block_lt_of_cell? w _ hcz0
      have hcz := (hbel.cell hlt0).trans hcz0
      obtain ⟨z1, z2⟩ := wok_at HW.out hz
      have z4 := H4.out z (List.mem_of_getElem? hz)
      obtain ⟨zn, rfl⟩ := Int.eq_ofNat_of_zero_le (by omega : 0 ≤ z)
      obtain ⟨s3, s4⟩ := wsum_mono HW.out (k + 1)
      have hss := wsum_succ hz
      have hsb : s ≤ 8388608 := by omega
      have hra := recs_at bs ws 0 k _ hz
      rw [Int.zero_add, ← hs] at hra
      have hxl := getX_lt bs (s : Int) (zn : Int) z4
      have HG := Lib.hid (get_any A1 len c1 (s : Int) (zn : Int) bs wr hl hc1 (HB.out.below hbel))
      generalize getX bs (s : Int) (zn : Int) = y at hra hxl HG
      generalize getE len (s : Int) (zn : Int) = ye at HG
      have htk : (recs bs 0 ws).take (k + 1) = (recs bs 0 ws).take k ++ [(y : Int)] := by rw [List.take_add_one, hra]; rfl
      have X5 := Lib.hid hown
      have X6 := Lib.hid hbel
      have X7 := Lib.hid htk
      have X9 := Lib.hid hs
      have XS := Lib.hid hss
      clear hown hbel htk hra hz hs hss
      go_wp2_with fail
      refine HG.out.mono ?_
      rintro e w1 ⟨rfl, hb1⟩
      have hs1 := hb1.size
      have Y5 := Lib.hid (own_below X5.out hb1)
      have Y6 := Lib.hid (below_all X6.out hsz hb1)
      have XL := Lib.hid (lit_rowN w1 3 (ints [(y : Int)]) 1 w1.heap.size rfl rfl)
      have hcz1 := (Y6.out.cell hlt0).trans hcz0
      clear hb1 hcz HG
      go_wp2_with (first
        | (at_builtin
           refine app_i64 _ rfl (.tmp 24) (.tmp 27) rfl w.heap.size u5 k (ints ((recs bs 0 ws).take k)) rfl (Y5.out.alloc _) (some ⟨w1.heap.size, 0, none⟩) 1 1 [(y : Int)] rfl (fun e => by cases e) XL.out (by omega) (by simp; omega) ?_
           intro v' w2 hown2 hg2
           have bel2 := Lib.hid (below_row (Y6.out.alloc (by omega) (.cells (ints [(y : Int)]).toArray 3)) hg2 (fun g e => (Y5.out.lt g e).1) (by simp; omega))
           have own2 := Lib.hid hown2
           clear hown2 hg2)
        | fail)
      go_roundw
      case rel => exact ⟨k + 1, s + zn, by omega, by go_num, by rw [XS.out, ← X9.out]; omega, by go_num, by rw [X7.out, ints, List.map_append]; exact own2.out, bel2.out⟩
      case measure => simp [intOf]; omega
    · obtain rfl : k = n := by omega
      have hul : (recs bs 0 ws).take k = recs bs 0 ws := List.take_of_length_le (by rw [recs_length, HLW.out]; exact Nat.le_refl _)
      rw [hul] at hown
      have X5 := Lib.hid hown
      have X6 := Lib.hid hbel
      clear hown hbel hul hs
      go_wp2_with fail
      go_ret
      exact ⟨_, rfl, X6.out, X5.out⟩
end Go.Proofs.Ytafonjnanfekkaa.Lay
