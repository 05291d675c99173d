/-
  PLAIN: groups lie end to end; each inode at a place of its own.
-/
import Derived.Test.YtoikmdpcdghnlaaLayM
namespace Go.Proofs.Ytoikmdpcdghnlaa.Lay

/-- Where the groups ahead of number k end. -/
def ate (B P I J : Int) : Nat → Int
  | 0 => 0
  | k + 1 => spanB B P I J k

theorem group_facts {B P I J : Int} (h : gok B P I J = true) (k : Nat) (hk : (k : Int) ≤ (B - 1) / P) :
    spanE B P I J k = 0 ∧ spanA B P I J k = ate B P I J k ∧ spanA B P I J k < spanB B P I J k ∧ spanA B P I J k ≤ placeA B P I J k ∧ placeB B P I J k = placeA B P I J k + 1 ∧
    placeC B P I J k = placeB B P I J k + 1 ∧ placeC B P I J k < placeD B P I J k ∧ placeD B P I J k < spanB B P I J k ∧ 0 ≤ spanA B P I J k ∧ spanB B P I J k ≤ 4096 := by
  have G := Geo.of h
  have hi := isg_mk h (g := k) (by omega) hk
  obtain ⟨y1, y2, y3⟩ := G.mul (g := k) (by omega) hk
  have f1 := G.f1; have f2 := G.f2; have l1 := G.l1; have dm := G.dm; have j1 := G.j1; have i1 := G.i1; have r2 := G.r2; have b2 := G.b2; have p1 := G.p1
  have hs : spanB B P I J k = if (k : Int) < (B - 1) / P then (k : Int) * P + P else B := by
    simp only [spanB, hi, if_true]; exact span_end G hk
  have hz : (k : Int) = (B - 1) / P → (k : Int) * P = P * ((B - 1) / P) := fun e => by rw [e, Int.mul_comm]
  have hat : spanA B P I J k = ate B P I J k := by
    simp only [spanA, hi, if_true]
    cases k with
    | zero => simp [ate]
    | succ m =>
      have hi' := isg_mk h (g := m) (by omega) (by omega)
      simp only [ate, spanB, hi', if_true]
      rw [span_end G (by omega), if_pos (by omega)]
      have : ((m + 1 : Nat) : Int) * P = (m : Int) * P + P := by rw [show ((m + 1 : Nat) : Int) = (m : Int) + 1 from by omega, Int.add_mul, Int.one_mul]
      exact this
  refine ⟨by simp [spanE, hi], hat, ?_, ?_, by simp [placeA, placeB, hi], by simp [placeB, placeC, hi]; omega, by simp [placeC, placeD, hi]; omega, ?_, ?_, ?_⟩
  · rw [hs]
    simp only [spanA, hi, if_true]
    split
    · omega
    · have := hz (by omega); omega
  · simp only [spanA, placeA, hi, if_true, base]
    split
    · rename_i e; rw [e]; omega
    · omega
  · rw [hs]
    simp only [placeD, hi, if_true, base]
    by_cases e : (k : Int) = 0
    · rw [if_pos e]
      split
      · rw [e]; omega
      · omega
    · rw [if_neg e]
      split
      · omega
      · have := hz (by omega); omega
  · simp only [spanA, hi, if_true]; omega
  · rw [hs]
    split
    · have e : ((k : Int) + 1) * P ≤ ((B - 1) / P) * P := Int.mul_le_mul_of_nonneg_right (by omega) (by omega)
      rw [Int.add_mul, Int.one_mul, Int.mul_comm ((B - 1) / P) P] at e
      have := G.r1
      omega
    · omega

theorem ate_end {B P I J : Int} (h : gok B P I J = true) (k : Nat) (hk : (k : Int) = grp B P I J) : ate B P I J k = B := by
  rw [grp_yes h] at hk
  have G := Geo.of h
  have n1 := G.n1
  obtain ⟨m, rfl⟩ : ∃ m, k = m + 1 := ⟨k - 1, by omega⟩
  have hm : (m : Int) = (B - 1) / P := by omega
  have hi := isg_mk h (g := m) (by omega) (by omega)
  simp only [ate, spanB, hi, if_true]
  rw [span_end G (by omega), if_neg (by omega)]

/-- Where inode n stands, in bytes. -/
def ilo (B P I J n : Int) : Int := inoA B P I J n * 256 + inoB B P I J n
def ila (B P I J : Int) : Nat → Int
  | 0 => -1
  | 1 => -1
  | k + 2 => ilo B P I J ((k + 1 : Nat) : Int)

theorem ilo_eq {B P I J n : Int} (h : gok B P I J = true) (h0 : 1 ≤ n) (h1 : n ≤ ((B - 1) / P + 1) * I) :
    inoE B P I J n = 0 ∧ inoA B P I J n = base P J ((n - 1) / I) + 2 + (n - 1) % I / 2 ∧ inoB B P I J n = (n - 1) % I % 2 * 128 ∧
    placeC B P I J ((n - 1) / I) = base P J ((n - 1) / I) + 2 ∧ placeD B P I J ((n - 1) / I) = base P J ((n - 1) / I) + 2 + I / 2 ∧
    ilo B P I J n = (base P J ((n - 1) / I) + 2) * 256 + (n - 1) % I * 128 ∧ 0 ≤ base P J ((n - 1) / I) ∧ base P J ((n - 1) / I) ≤ 4095 := by
  have G := Geo.of h
  obtain ⟨x1, x2, x3, x4, x5⟩ := G.ino h0 h1
  have hi := isg_mk h x1 x2
  have hn : isi B P I J n = true := by simp [isi, grp_yes h]; omega
  have hc : placeC B P I J ((n - 1) / I) = base P J ((n - 1) / I) + 2 := by simp [placeC, hi]
  have hd : placeD B P I J ((n - 1) / I) = base P J ((n - 1) / I) + 2 + I / 2 := by simp [placeD, hi]
  have ha : inoA B P I J n = base P J ((n - 1) / I) + 2 + (n - 1) % I / 2 := by simp [inoA, hn, hc]
  have hb : inoB B P I J n = (n - 1) % I % 2 * 128 := by simp [inoB, hn]
  obtain ⟨y1, y2, y3⟩ := G.mul x1 x2
  have j1 := G.j1; have j2 := G.j2
  refine ⟨by simp [inoE, hn], ha, hb, hc, hd, ?_, ?_, ?_⟩
  · rw [ilo, ha, hb]; omega
  · unfold base; split <;> omega
  · unfold base; split <;> omega

theorem ilo_rises {B P I J n : Int} (h : gok B P I J = true) (h0 : 1 ≤ n) (h1 : n + 1 ≤ ((B - 1) / P + 1) * I) : ilo B P I J n < ilo B P I J (n + 1) := by
  have G := Geo.of h
  obtain ⟨_, _, _, _, _, e1, _, _⟩ := ilo_eq h h0 (by omega)
  obtain ⟨_, _, _, _, _, e2, _, _⟩ := ilo_eq (n := n + 1) h (by omega) h1
  rw [e1, e2]
  have i1 := G.i1; have i3 := G.i3; have f1 := G.f1; have p1 := G.p1; have j1 := G.j1
  obtain ⟨x1, x2, x3, x4, x5⟩ := G.ino h0 (by omega)
  have dm : I * ((n - 1) / I) + (n - 1) % I = n - 1 := Int.mul_ediv_add_emod _ _
  have hn : n + 1 - 1 = n - 1 + 1 := by omega
  rw [hn]
  by_cases hr : (n - 1) % I + 1 < I
  · have hq : (n - 1 + 1) / I = (n - 1) / I := by
      rw [show n - 1 + 1 = ((n - 1) % I + 1) + ((n - 1) / I) * I by rw [Int.mul_comm]; omega, Int.add_mul_ediv_right _ _ (by omega), Int.ediv_eq_zero_of_lt (by omega) hr]; omega
    have hm : (n - 1 + 1) % I = (n - 1) % I + 1 := by
      have := Int.mul_ediv_add_emod (n - 1 + 1) I
      rw [hq] at this; omega
    rw [hq, hm]; omega
  · have hq : (n - 1 + 1) / I = (n - 1) / I + 1 := by
      rw [show n - 1 + 1 = ((n - 1) / I + 1) * I by rw [Int.add_mul, Int.one_mul, Int.mul_comm]; omega, Int.mul_ediv_cancel _ (by omega)]
    have hm : (n - 1 + 1) % I = 0 := by
      have := Int.mul_ediv_add_emod (n - 1 + 1) I
      rw [hq, Int.mul_add] at this; omega
    rw [hq, hm]
    generalize hQ : (n - 1) / I = q at *
    have hb : base P J q + I / 2 + 3 ≤ base P J (q + 1) := by
      unfold base
      rw [if_neg (by omega : ¬ q + 1 = 0)]
      have e : (q + 1) * P = q * P + P := by rw [Int.add_mul, Int.one_mul]
      rw [e]
      by_cases hz : q = 0
      · rw [if_pos hz, hz]; omega
      · rw [if_neg hz]; omega
    omega

theorem ila_lt {B P I J : Int} (h : gok B P I J = true) (k : Nat) (h0 : 1 ≤ k) (h1 : (k : Int) ≤ ((B - 1) / P + 1) * I) : ila B P I J k < ilo B P I J k ∧ -1 ≤ ila B P I J k ∧ ila B P I J k ≤ 2000000 := by
  have G := Geo.of h
  have i1 := G.i1; have i2 := G.i2
  have low : ∀ n : Int, 1 ≤ n → n ≤ ((B - 1) / P + 1) * I → 0 ≤ ilo B P I J n ∧ ilo B P I J n ≤ 2000000 := fun n a b => by
    obtain ⟨_, _, _, _, _, e1, e2, e3⟩ := ilo_eq h a b
    obtain ⟨x1, x2, x3, x4, x5⟩ := G.ino a b
    omega
  match k, h0 with
  | 1, _ => exact ⟨by have := low 1 (by omega) h1; simp [ila]; omega, by simp [ila], by simp [ila]⟩
  | m + 2, _ =>
    have hc : ((m + 2 : Nat) : Int) = ((m + 1 : Nat) : Int) + 1 := by omega
    rw [hc] at h1
    have := low ((m + 1 : Nat) : Int) (by omega) (by omega)
    exact ⟨by rw [hc]; exact ilo_rises h (by omega) h1, by simp only [ila]; omega, by simp only [ila]; omega⟩
end Go.Proofs.Ytoikmdpcdghnlaa.Lay
