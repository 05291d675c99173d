
/-
  PLAIN: the arithmetic of layer 4 (layout): which geometries may be, where each group and each inode lies. No program in sight.
-/
import Derived.RowKit
namespace Go.Proofs.Ytafonjnanfekkaa.Lay
open Go.RowKit

def rg (x lo hi : Int) : Bool := decide (lo ≤ x) && decide (x ≤ hi)
theorem rg_true {x lo hi : Int} (h : rg x lo hi = true) : lo ≤ x ∧ x ≤ hi := by simpa [rg] using h
theorem rg_mk {x lo hi : Int} (h : lo ≤ x) (h' : x ≤ hi) : rg x lo hi = true := by simp [rg, h, h']

def chk1 (B P I J : Int) : Bool := rg B 128 4096 && (rg P 32 2016 && (rg I 8 512 && ((I % 2 == 0) && rg J 96 512)))
def chk2 (B P I J : Int) : Bool := decide ((B - 1) / P < 14) && (decide (5 + J + I / 2 ≤ P) && (decide (5 + J + I / 2 ≤ B) && decide (3 + I / 2 ≤ (B - 1) % P + 1)))
/-- May a geometry be? -/
def gok (B P I J : Int) : Bool := chk1 B P I J && chk2 B P I J
def chk (B P I J : Int) : Int := if gok B P I J = true then 0 else 22
/-- How many groups. -/
def grp (B P I J : Int) : Int := if gok B P I J = true then (B - 1) / P + 1 else 0
/-- Is there such a group? -/
def isg (B P I J g : Int) : Bool := decide (0 ≤ g) && decide (g < grp B P I J)
def spanA (B P I J g : Int) : Int := if isg B P I J g = true then g * P else 0
def spanB (B P I J g : Int) : Int := if isg B P I J g = true then (if g * P + P < B then g * P + P else B) else 0
def spanE (B P I J g : Int) : Int := if isg B P I J g = true then 0 else 22
/-- Where the first bitmap of a group lies. -/
def base (P J g : Int) : Int := if g = 0 then 2 + J else g * P
def placeA (B P I J g : Int) : Int := if isg B P I J g = true then base P J g else 0
def placeB (B P I J g : Int) : Int := if isg B P I J g = true then base P J g + 1 else 0
def placeC (B P I J g : Int) : Int := if isg B P I J g = true then base P J g + 2 else 0
def placeD (B P I J g : Int) : Int := if isg B P I J g = true then base P J g + 2 + I / 2 else 0
def fixd (B P I J : Int) : Int := if gok B P I J = true then 2 + J + ((B - 1) / P + 1) * (2 + I / 2) else 0
/-- Is there such an inode? -/
def isi (B P I J n : Int) : Bool := decide (1 ≤ n) && decide (n ≤ grp B P I J * I)
def inoA (B P I J n : Int) : Int := if isi B P I J n = true then placeC B P I J ((n - 1) / I) + (n - 1) % I / 2 else 0
def inoB (B P I J n : Int) : Int := if isi B P I J n = true then (n - 1) % I % 2 * 128 else 0
def inoE (B P I J n : Int) : Int := if isi B P I J n = true then 0 else 22

/-- What a geometry that may be keeps. -/
structure Geo (B P I J : Int) : Prop where
  b1 : 128 ≤ B
  b2 : B ≤ 4096
  p1 : 32 ≤ P
  p2 : P ≤ 2016
  i1 : 8 ≤ I
  i2 : I ≤ 512
  i3 : I % 2 = 0
  j1 : 96 ≤ J
  j2 : J ≤ 512
  n1 : 0 ≤ (B - 1) / P
  n2 : (B - 1) / P < 14
  r1 : 0 ≤ (B - 1) % P
  r2 : (B - 1) % P < P
  f1 : 5 + J + I / 2 ≤ P
  f2 : 5 + J + I / 2 ≤ B
  l1 : 3 + I / 2 ≤ (B - 1) % P + 1
  dm : P * ((B - 1) / P) + (B - 1) % P = B - 1

theorem chk1_true {B P I J : Int} (h : chk1 B P I J = true) : 128 ≤ B ∧ B ≤ 4096 ∧ 32 ≤ P ∧ P ≤ 2016 ∧ 8 ≤ I ∧ I ≤ 512 ∧ I % 2 = 0 ∧ 96 ≤ J ∧ J ≤ 512 := by
  simpa [chk1, rg, and_assoc] using h
theorem chk2_true {B P I J : Int} (h : chk2 B P I J = true) : (B - 1) / P < 14 ∧ 5 + J + I / 2 ≤ P ∧ 5 + J + I / 2 ≤ B ∧ 3 + I / 2 ≤ (B - 1) % P + 1 := by
  simpa [chk2, and_assoc] using h
theorem Geo.of {B P I J : Int} (h : gok B P I J = true) : Geo B P I J := by
  unfold gok at h
  rw [Bool.and_eq_true] at h
  obtain ⟨b1, b2, p1, p2, i1, i2, i3, j1, j2⟩ := chk1_true h.1
  obtain ⟨n2, f1, f2, l1⟩ := chk2_true h.2
  exact ⟨b1, b2, p1, p2, i1, i2, i3, j1, j2, Int.ediv_nonneg (by omega) (by omega), n2, Int.emod_nonneg _ (by omega), Int.emod_lt_of_pos _ (by omega), f1, f2, l1, Int.mul_ediv_add_emod _ _⟩
theorem grp_yes {B P I J : Int} (h : gok B P I J = true) : grp B P I J = (B - 1) / P + 1 := by simp [grp, h]
theorem grp_no {B P I J : Int} (h : gok B P I J = false) : grp B P I J = 0 := by simp [grp, h]
theorem grp_le (B P I J : Int) : 0 ≤ grp B P I J ∧ grp B P I J ≤ 14 := by
  unfold grp
  split
  · rename_i h
    have g := Geo.of h
    have := g.n1; have := g.n2
    omega
  · omega
theorem grp_pos {B P I J : Int} (h : 0 < grp B P I J) : gok B P I J = true := by
  unfold grp at h
  split at h
  · assumption
  · omega
theorem isg_true {B P I J g : Int} (h : isg B P I J g = true) : gok B P I J = true ∧ 0 ≤ g ∧ g ≤ (B - 1) / P := by
  simp [isg] at h
  have hg := grp_pos (B := B) (P := P) (I := I) (J := J) (by omega)
  rw [grp_yes hg] at h
  exact ⟨hg, h.1, by omega⟩
theorem isg_mk {B P I J g : Int} (h : gok B P I J = true) (h0 : 0 ≤ g) (h1 : g ≤ (B - 1) / P) : isg B P I J g = true := by
  simp [isg, grp_yes h]; omega
/-- A group's first block, and what lies behind it. -/
theorem Geo.mul {B P I J g : Int} (G : Geo B P I J) (h0 : 0 ≤ g) (h1 : g ≤ (B - 1) / P) : 0 ≤ g * P ∧ g * P ≤ P * ((B - 1) / P) ∧ g * P ≤ 4095 := by
  have p1 := G.p1
  have e : g * P ≤ ((B - 1) / P) * P := Int.mul_le_mul_of_nonneg_right h1 (by omega)
  rw [Int.mul_comm ((B - 1) / P) P] at e
  have := G.dm; have := G.r1; have := G.b2
  exact ⟨Int.mul_nonneg h0 (by omega), e, by omega⟩
theorem isi_true {B P I J n : Int} (h : isi B P I J n = true) : gok B P I J = true ∧ 1 ≤ n ∧ n ≤ ((B - 1) / P + 1) * I := by
  simp [isi] at h
  have hg : gok B P I J = true := by
    cases e : gok B P I J
    · rw [grp_no e] at h; omega
    · rfl
  rw [grp_yes hg] at h
  exact ⟨hg, h⟩
/-- An inode's group, and its place there. -/
theorem Geo.ino {B P I J n : Int} (G : Geo B P I J) (h0 : 1 ≤ n) (h1 : n ≤ ((B - 1) / P + 1) * I) :
    0 ≤ (n - 1) / I ∧ (n - 1) / I ≤ (B - 1) / P ∧ 0 ≤ (n - 1) % I ∧ (n - 1) % I < I ∧ n ≤ 7168 := by
  have i1 := G.i1; have i2 := G.i2; have n1 := G.n1; have n2 := G.n2
  have hm : ((B - 1) / P + 1) * I ≤ 14 * 512 := Int.mul_le_mul (by omega) (by omega) (by omega) (by omega)
  refine ⟨Int.ediv_nonneg (by omega) (by omega), ?_, Int.emod_nonneg _ (by omega), Int.emod_lt_of_pos _ (by omega), by omega⟩
  have : (n - 1) / I < (B - 1) / P + 1 := Int.ediv_lt_of_lt_mul (by omega) (by omega)
  omega
theorem span_end {B P I J g : Int} (G : Geo B P I J) (h1 : g ≤ (B - 1) / P) :
    (if g * P + P < B then g * P + P else B) = if g < (B - 1) / P then g * P + P else B := by
  have dm := G.dm; have r1 := G.r1; have r2 := G.r2; have p1 := G.p1
  by_cases hl : g < (B - 1) / P
  · have e : (g + 1) * P ≤ ((B - 1) / P) * P := Int.mul_le_mul_of_nonneg_right (by omega) (by omega)
    rw [Int.add_mul, Int.one_mul, Int.mul_comm ((B - 1) / P) P] at e
    rw [if_pos hl, if_pos (by omega)]
  · have hg : g = (B - 1) / P := by omega
    have e : g * P = P * ((B - 1) / P) := by rw [hg, Int.mul_comm]
    rw [if_neg hl]
    by_cases hb : g * P + P < B
    · omega
    · rw [if_neg hb]

/-- The data of the first groups. -/
def dsum (B P I J : Int) : Nat → Int
  | 0 => 0
  | k + 1 => dsum B P I J k + (spanB B P I J k - placeD B P I J k)
theorem dsum_eq {B P I J : Int} (hgo : gok B P I J = true) (k : Nat) (h : (k : Int) ≤ (B - 1) / P) :
    dsum B P I J (k + 1) = (if (k : Int) = (B - 1) / P then B else (k : Int) * P + P) - (2 + J) - ((k : Int) + 1) * (2 + I / 2) := by
  have G := Geo.of hgo
  have hi : ∀ i : Nat, (i : Int) ≤ (B - 1) / P → isg B P I J i = true := fun i hi => isg_mk hgo (by omega) hi
  have hs : ∀ i : Nat, (i : Int) ≤ (B - 1) / P → spanB B P I J i = if (i : Int) < (B - 1) / P then (i : Int) * P + P else B := fun i hle => by
    simp only [spanB, hi i hle, if_true]
    exact span_end G hle
  have hp : ∀ i : Nat, (i : Int) ≤ (B - 1) / P → placeD B P I J i = (if (i : Int) = 0 then 2 + J else (i : Int) * P) + 2 + I / 2 := fun i hle => by
    simp [placeD, hi i hle, base]
  induction k with
  | zero =>
    have e0 := hs 0 h
    have e1 := hp 0 h
    simp only [dsum, e0, e1]
    generalize (B - 1) / P = N at *
    by_cases hz : (0 : Int) = N
    · simp [← hz]; omega
    · simp [hz]
      rw [if_pos (by omega)]; omega
  | succ k ih =>
    have e := ih (by omega)
    have e0 := hs (k + 1) h
    have e1 := hp (k + 1) h
    rw [dsum, e, e0, e1]
    have hne : ¬ ((k : Int) = (B - 1) / P) := by omega
    rw [if_neg hne]
    generalize (B - 1) / P = N at *
    have hc : ((k + 1 : Nat) : Int) = (k : Int) + 1 := by omega
    rw [hc]
    rw [hc] at h
    rw [if_neg (by omega : ¬ ((k : Int) + 1 = 0))]
    simp only [Int.add_mul, Int.one_mul]
    by_cases hz : (k : Int) + 1 = N
    · rw [if_neg (by omega), if_pos hz]; omega
    · rw [if_pos (by omega), if_neg hz]; omega
theorem dsum_le {B P I J : Int} (hgo : gok B P I J = true) (k : Nat) (h : (k : Int) ≤ (B - 1) / P + 1) : 0 ≤ dsum B P I J k ∧ dsum B P I J k ≤ 4096 ∧ (0 < k → 0 < dsum B P I J k) := by
  have G := Geo.of hgo
  have step : ∀ i : Nat, (i : Int) ≤ (B - 1) / P → 0 < spanB B P I J i - placeD B P I J i := fun i hle => by
    have hi := isg_mk hgo (by omega) hle
    simp only [spanB, placeD, hi, if_true, base, span_end G hle]
    have f1 := G.f1; have f2 := G.f2; have l1 := G.l1; have dm := G.dm; have j1 := G.j1
    have hi2 : 0 ≤ I / 2 := Int.ediv_nonneg (by have := G.i1; omega) (by omega)
    by_cases hz : (i : Int) = 0
    · rw [if_pos hz, hz]
      split <;> omega
    · rw [if_neg hz]
      split
      · omega
      · have hg : (i : Int) = (B - 1) / P := by omega
        have e : (i : Int) * P = P * ((B - 1) / P) := by rw [hg, Int.mul_comm]
        omega
  have low : ∀ k : Nat, (k : Int) ≤ (B - 1) / P + 1 → 0 ≤ dsum B P I J k ∧ (0 < k → 0 < dsum B P I J k) := by
    intro k
    induction k with
    | zero => intro _; exact ⟨by simp [dsum], fun h => absurd h (by omega)⟩
    | succ k ih =>
      intro hk
      have := (ih (by omega)).1
      have := step k (by omega)
      simp only [dsum]
      exact ⟨by omega, fun _ => by omega⟩
  refine ⟨(low k h).1, ?_, (low k h).2⟩
  cases k with
  | zero => simp [dsum]
  | succ k =>
    rw [dsum_eq hgo k (by omega)]
    have dm := G.dm; have b2 := G.b2; have j1 := G.j1; have r1 := G.r1
    have hi2 : 0 ≤ I / 2 := Int.ediv_nonneg (by have := G.i1; omega) (by omega)
    have hn : 0 ≤ ((k : Int) + 1) * (2 + I / 2) := Int.mul_nonneg (by omega) (by omega)
    split
    · omega
    · have e : ((k : Int) + 1) * P ≤ ((B - 1) / P) * P := Int.mul_le_mul_of_nonneg_right (by omega) (by have := G.p1; omega)
      rw [Int.add_mul, Int.one_mul, Int.mul_comm ((B - 1) / P) P] at e
      omega
theorem fixd_eq {B P I J : Int} (hgo : gok B P I J = true) : ∀ k : Nat, (k : Int) = grp B P I J → B - dsum B P I J k = fixd B P I J := by
  intro k hk
  rw [grp_yes hgo] at hk
  have n1 := (Geo.of hgo).n1
  obtain ⟨m, rfl⟩ : ∃ m, k = m + 1 := ⟨k - 1, by omega⟩
  have hm : (m : Int) = (B - 1) / P := by omega
  rw [dsum_eq hgo m (by omega), if_pos hm, hm]
  simp only [fixd, hgo, if_true]
  omega
end Go.Proofs.Ytafonjnanfekkaa.Lay
