
/-
  THE WALKS of layer 4 (layout), the program's and the document's: Check, Groups, Span, Place, Fixed, InodeAt.
-/
import Derived.Test.YtafonjnanfekkaaProg
import Derived.Test.YtafonjnanfekkaaLayM
import Derived.Test.YtafonjnanfekkaaW
namespace Go.Proofs.Ytafonjnanfekkaa.Lay
open Go.RowKit
set_option maxHeartbeats 8000000

theorem ranged_any (x lo hi : Int) (w : World) :
    Calls Try.prog 64 #[.int .i64 x, .int .i64 lo, .int .i64 hi] w fun e w' => e = .returned (.bool (rg x lo hi)) ∧ w = w' := by
  by_cases h : lo ≤ x
  · go_enter Try.func64, Try.ntmps64
    go_wp2
    go_ret
    simp [rg, h]
  · go_enter Try.func64, Try.ntmps64
    go_wp2
    go_ret
    simp [rg]; omega

/-! ### layout.Check -/
theorem lcheck_out (B P I J : Int) (w : World) (h : chk1 B P I J = false) :
    Calls Try.prog 43 #[.agg #[.int .i64 B, .int .i64 P, .int .i64 I, .int .i64 J]] w fun e w' => e = .returned (.int .i64 22) ∧ Below w.heap.size w w' := by
  unfold chk1 at h
  have fin := (Below.refl w.heap.size w).alloc (Nat.le_refl _) (.cells #[.int .i64 B, .int .i64 P, .int .i64 I, .int .i64 J] 37)
  have FIN := Lib.hid fin
  clear fin
  cases h1 : rg B 128 4096
  · go_enter Try.func43, Try.ntmps43
    go_wp2_with (go_at_call 64; refine (ranged_any _ _ _ _).mono ?_; rintro e w' ⟨rfl, rfl⟩)
    go_ret
    exact ⟨rfl, FIN.out⟩
  cases h2 : rg P 32 2016
  · go_enter Try.func43, Try.ntmps43
    go_wp2_with (go_at_call 64; refine (ranged_any _ _ _ _).mono ?_; rintro e w' ⟨rfl, rfl⟩)
    go_ret
    exact ⟨rfl, FIN.out⟩
  cases h3 : rg I 8 512
  · go_enter Try.func43, Try.ntmps43
    go_wp2_with (go_at_call 64; refine (ranged_any _ _ _ _).mono ?_; rintro e w' ⟨rfl, rfl⟩)
    go_ret
    exact ⟨rfl, FIN.out⟩
  have hi := rg_true h3
  have ha := and_one I (by omega) (by omega)
  simp only [h1, h2, h3, Bool.true_and] at h
  cases h4 : (I % 2 == 0)
  · have h4' : (bits .and .i64 I 1 != 0) = true := by rw [ha]; simpa using h4
    clear ha h h4
    go_enter Try.func43, Try.ntmps43
    go_wp2_with (go_at_call 64; refine (ranged_any _ _ _ _).mono ?_; rintro e w' ⟨rfl, rfl⟩)
    go_ret
    exact ⟨rfl, FIN.out⟩
  · have h4' : (bits .and .i64 I 1 != 0) = false := by rw [ha]; simpa using h4
    have h5 : rg J 96 512 = false := by simpa [h4] using h
    clear ha h h4
    go_enter Try.func43, Try.ntmps43
    go_wp2_with (go_at_call 64; refine (ranged_any _ _ _ _).mono ?_; rintro e w' ⟨rfl, rfl⟩)
    go_ret
    exact ⟨rfl, FIN.out⟩

theorem lcheck_in (B P I J : Int) (w : World) (h : chk1 B P I J = true) :
    Calls Try.prog 43 #[.agg #[.int .i64 B, .int .i64 P, .int .i64 I, .int .i64 J]] w fun e w' => e = .returned (.int .i64 (chk B P I J)) ∧ Below w.heap.size w w' := by
  obtain ⟨b1, b2, p1, p2, i1, i2, i3, j1, j2⟩ := chk1_true h
  have s1 : rg B 128 4096 = true := by simp [rg, *]
  have s2 : rg P 32 2016 = true := by simp [rg, *]
  have s3 : rg I 8 512 = true := by simp [rg, *]
  have s4 : rg J 96 512 = true := by simp [rg, *]
  have s5 : (bits .and .i64 I 1 != 0) = false := by rw [and_one I (by omega) (by omega), i3]; rfl
  have hno : chk2 B P I J = false → (22 : Int) = chk B P I J := fun e => by simp [chk, gok, h, e]
  have HNO := Lib.hid hno
  have hye : chk2 B P I J = true → (0 : Int) = chk B P I J := fun e => by simp [chk, gok, h, e]
  have HYE := Lib.hid hye
  clear hno hye
  clear i3 h
  have d1 : 0 ≤ (B - 1) / P := Int.ediv_nonneg (by omega) (by omega)
  have d2 : (B - 1) / P ≤ B - 1 := Int.ediv_le_self _ (by omega)
  have m1 : 0 ≤ (B - 1) % P := Int.emod_nonneg _ (by omega)
  have m2 : (B - 1) % P < P := Int.emod_lt_of_pos _ (by omega)
  have fin := (Below.refl w.heap.size w).alloc (Nat.le_refl _) (.cells #[.int .i64 B, .int .i64 P, .int .i64 I, .int .i64 J] 37)
  have FIN := Lib.hid fin
  clear fin
  by_cases q1 : 14 ≤ (B - 1) / P
  · have q : chk2 B P I J = false := by simp [chk2]; omega
    have Q := Lib.hid q
    clear q
    go_enter Try.func43, Try.ntmps43
    go_wp2_with (go_at_call 64; refine (ranged_any _ _ _ _).mono ?_; rintro e w' ⟨rfl, rfl⟩)
    go_ret
    exact ⟨ret_int (HNO.out Q.out), FIN.out⟩
  by_cases q2 : 5 + J + I / 2 ≤ P
  · by_cases q3 : 5 + J + I / 2 ≤ B
    · by_cases q4 : 3 + I / 2 ≤ (B - 1) % P + 1
      · have q : chk2 B P I J = true := by simp [chk2]; omega
        have Q := Lib.hid q
        clear q
        by_cases hm : P < B
        all_goals
          go_enter Try.func43, Try.ntmps43
          go_wp2_with (go_at_call 64; refine (ranged_any _ _ _ _).mono ?_; rintro e w' ⟨rfl, rfl⟩)
          go_ret
          exact ⟨ret_int (HYE.out Q.out), FIN.out⟩
      · have q : chk2 B P I J = false := by simp [chk2]; omega
        have Q := Lib.hid q
        clear q
        by_cases hm : P < B
        all_goals
          go_enter Try.func43, Try.ntmps43
          go_wp2_with (go_at_call 64; refine (ranged_any _ _ _ _).mono ?_; rintro e w' ⟨rfl, rfl⟩)
          go_ret
          exact ⟨ret_int (HNO.out Q.out), FIN.out⟩
    · have q : chk2 B P I J = false := by simp [chk2]; omega
      have Q := Lib.hid q
      clear q
      by_cases hm : P < B
      · omega
      · go_enter Try.func43, Try.ntmps43
        go_wp2_with (go_at_call 64; refine (ranged_any _ _ _ _).mono ?_; rintro e w' ⟨rfl, rfl⟩)
        go_ret
        exact ⟨ret_int (HNO.out Q.out), FIN.out⟩
  · have q : chk2 B P I J = false := by simp [chk2]; omega
    have Q := Lib.hid q
    clear q
    by_cases hm : P < B
    · go_enter Try.func43, Try.ntmps43
      go_wp2_with (go_at_call 64; refine (ranged_any _ _ _ _).mono ?_; rintro e w' ⟨rfl, rfl⟩)
      go_ret
      exact ⟨ret_int (HNO.out Q.out), FIN.out⟩
    · by_cases q3 : 5 + J + I / 2 ≤ B
      · omega
      · go_enter Try.func43, Try.ntmps43
        go_wp2_with (go_at_call 64; refine (ranged_any _ _ _ _).mono ?_; rintro e w' ⟨rfl, rfl⟩)
        go_ret
        exact ⟨ret_int (HNO.out Q.out), FIN.out⟩

theorem lcheck_any (B P I J : Int) (w : World) :
    Calls Try.prog 43 #[.agg #[.int .i64 B, .int .i64 P, .int .i64 I, .int .i64 J]] w fun e w' => e = .returned (.int .i64 (chk B P I J)) ∧ Below w.heap.size w w' := by
  cases h : chk1 B P I J
  · refine (lcheck_out B P I J w h).mono fun e w' ⟨he, hw⟩ => ⟨he.trans (ret_int ?_), hw⟩
    simp [chk, gok, h]
  · exact lcheck_in B P I J w h
end Go.Proofs.Ytafonjnanfekkaa.Lay
