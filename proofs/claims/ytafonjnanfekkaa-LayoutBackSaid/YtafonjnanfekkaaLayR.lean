
/-
  THE WALKS of the document's layer 4 (hayrickref04): within, groups, Check, Groups, Span, Place, Fixed, InodeAt.
-/
import Derived.Test.YtafonjnanfekkaaLayB
namespace Go.Proofs.Ytafonjnanfekkaa.Lay
open Go.RowKit
set_option maxHeartbeats 8000000
set_option linter.unusedVariables false
set_option linter.unusedSimpArgs false

theorem within_any (x lo hi : Int) (w : World) :
    Calls Try.prog 75 #[.int .i64 x, .int .i64 lo, .int .i64 hi] w fun e w' => e = .returned (.bool (rg x lo hi)) ∧ w = w' := by
  by_cases h : lo ≤ x
  · go_enter Try.func75, Try.ntmps75
    go_wp2
    go_ret
    simp [rg, h]
  · go_enter Try.func75, Try.ntmps75
    go_wp2
    go_ret
    simp [rg]; omega

theorem ceil_eq (B P : Int) (hP : 0 < P) : (B + P - 1) / P = (B - 1) / P + 1 := by
  rw [show B + P - 1 = (B - 1) + 1 * P by omega, Int.add_mul_ediv_right _ _ (by omega)]

theorem rgroups_any (B P I J : Int) (w : World) (b1 : 128 ≤ B) (b2 : B ≤ 4096) (p1 : 32 ≤ P) (p2 : P ≤ 2016) :
    Calls Try.prog 107 #[.agg #[.int .i64 B, .int .i64 P, .int .i64 I, .int .i64 J]] w fun e w' => e = .returned (.int .i64 ((B - 1) / P + 1)) ∧ Below w.heap.size w w' := by
  have fin := (Below.refl w.heap.size w).alloc (Nat.le_refl _) (.cells #[.int .i64 B, .int .i64 P, .int .i64 I, .int .i64 J] 37)
  have FIN := Lib.hid fin
  clear fin
  have d1 : 0 ≤ (B + P - 1) / P := Int.ediv_nonneg (by omega) (by omega)
  have d2 : (B + P - 1) / P ≤ B + P - 1 := Int.ediv_le_self _ (by omega)
  go_enter Try.func107, Try.ntmps107
  go_wp2
  go_ret
  exact ⟨ret_int (ceil_eq B P (by omega)), FIN.out⟩

theorem rcheck_out (B P I J : Int) (w : World) (h : chk1 B P I J = false) :
    Calls Try.prog 106 #[.agg #[.int .i64 B, .int .i64 P, .int .i64 I, .int .i64 J]] w fun e w' => e = .returned (.int .i64 22) ∧ Below w.heap.size w w' := by
  unfold chk1 at h
  have fin := (Below.refl w.heap.size w).alloc (Nat.le_refl _) (.cells #[.int .i64 B, .int .i64 P, .int .i64 I, .int .i64 J] 37)
  have FIN := Lib.hid fin
  clear fin
  cases h1 : rg B 128 4096
  · clear h
    go_enter Try.func106, Try.ntmps106
    go_wp2_with (go_at_call 75; refine (within_any _ _ _ _).mono ?_; rintro e w' ⟨rfl, rfl⟩)
    go_ret
    exact ⟨rfl, FIN.out⟩
  cases h2 : rg P 32 2016
  · clear h
    go_enter Try.func106, Try.ntmps106
    go_wp2_with (go_at_call 75; refine (within_any _ _ _ _).mono ?_; rintro e w' ⟨rfl, rfl⟩)
    go_ret
    exact ⟨rfl, FIN.out⟩
  cases h3 : rg I 8 512
  · clear h
    go_enter Try.func106, Try.ntmps106
    go_wp2_with (go_at_call 75; refine (within_any _ _ _ _).mono ?_; rintro e w' ⟨rfl, rfl⟩)
    go_ret
    exact ⟨rfl, FIN.out⟩
  obtain ⟨i1, i2⟩ := rg_true h3
  simp only [h1, h2, h3, Bool.true_and] at h
  cases h4 : (I % 2 == 0)
  · have h4' : (I % 2 != 0) = true := by simpa using h4
    clear h h4
    go_enter Try.func106, Try.ntmps106
    go_wp2_with (go_at_call 75; refine (within_any _ _ _ _).mono ?_; rintro e w' ⟨rfl, rfl⟩)
    go_ret
    exact ⟨rfl, FIN.out⟩
  · have h4' : (I % 2 != 0) = false := by simpa using h4
    have h5 : rg J 96 512 = false := by simpa [h4] using h
    clear h h4
    go_enter Try.func106, Try.ntmps106
    go_wp2_with (go_at_call 75; refine (within_any _ _ _ _).mono ?_; rintro e w' ⟨rfl, rfl⟩)
    go_ret
    exact ⟨rfl, FIN.out⟩

theorem rcheck_in (B P I J : Int) (w : World) (h : chk1 B P I J = true) :
    Calls Try.prog 106 #[.agg #[.int .i64 B, .int .i64 P, .int .i64 I, .int .i64 J]] w fun e w' => e = .returned (.int .i64 (chk B P I J)) ∧ Below w.heap.size w w' := by
  obtain ⟨b1, b2, p1, p2, i1, i2, i3, j1, j2⟩ := chk1_true h
  have s1 : rg B 128 4096 = true := by simp [rg, *]
  have s2 : rg P 32 2016 = true := by simp [rg, *]
  have s3 : rg I 8 512 = true := by simp [rg, *]
  have s4 : rg J 96 512 = true := by simp [rg, *]
  have s5 : (I % 2 != 0) = false := by simp [i3]
  have hno : chk2 B P I J = false → (22 : Int) = chk B P I J := fun e => by simp [chk, gok, h, e]
  have HNO := Lib.hid hno
  have hye : chk2 B P I J = true → (0 : Int) = chk B P I J := fun e => by simp [chk, gok, h, e]
  have HYE := Lib.hid hye
  clear hno hye
  clear i3 h
  have d1 : 0 ≤ (B - 1) / P := Int.ediv_nonneg (by omega) (by omega)
  have d2 : (B - 1) / P ≤ B - 1 := Int.ediv_le_self _ (by omega)
  have m1 : 0 ≤ (B - 1) % P := Int.emod_nonneg _ (by omega)
  have m2 : (B - 1) % P < P := Int.emod_lt_of_pos _ (by omega)
  have dm : P * ((B - 1) / P) + (B - 1) % P = B - 1 := Int.mul_ediv_add_emod _ _
  have e1 : (B - 1) / P * P = B - 1 - (B - 1) % P := by rw [Int.mul_comm]; omega
  have t1 : 0 ≤ (B - 1) / P * P := Int.mul_nonneg d1 (by omega)
  have t2 : (B - 1) / P * P ≤ 4096 := by omega
  have E1 := Lib.hid e1
  clear e1 dm
  have fin := (Below.refl w.heap.size w).alloc (Nat.le_refl _) (.cells #[.int .i64 B, .int .i64 P, .int .i64 I, .int .i64 J] 37)
  have FIN := Lib.hid fin
  clear fin
  by_cases q1 : 14 ≤ (B - 1) / P
  · have q : chk2 B P I J = false := by simp [chk2]; omega
    have Q := Lib.hid q
    clear q
    go_enter Try.func106, Try.ntmps106
    go_wp2_with (first | (go_at_call 75; refine (within_any _ _ _ _).mono ?_; rintro e w' ⟨rfl, rfl⟩) | (go_at_call 107; refine (rgroups_any _ _ _ _ _ (by assumption) (by assumption) (by assumption) (by assumption)).mono ?_; rintro e w1 ⟨rfl, hb⟩; obtain ⟨c0, c1, c2, c3⟩ := geo_cell (by simpa using hb); have HB := Lib.hid hb; clear hb))
    all_goals
      go_ret
      exact ⟨ret_int (HNO.out Q.out), below_of_new HB.out⟩
  by_cases q2 : 5 + J + I / 2 ≤ P
  · by_cases q3 : 5 + J + I / 2 ≤ B
    · by_cases q4 : 3 + I / 2 ≤ B - (B - 1) / P * P
      · have q : chk2 B P I J = true := by have := E1.out; simp [chk2]; omega
        have Q := Lib.hid q
        clear q
        go_enter Try.func106, Try.ntmps106
        go_wp2_with (first | (go_at_call 75; refine (within_any _ _ _ _).mono ?_; rintro e w' ⟨rfl, rfl⟩) | (go_at_call 107; refine (rgroups_any _ _ _ _ _ (by assumption) (by assumption) (by assumption) (by assumption)).mono ?_; rintro e w1 ⟨rfl, hb⟩; obtain ⟨c0, c1, c2, c3⟩ := geo_cell (by simpa using hb); have HB := Lib.hid hb; clear hb))
        all_goals
          go_ret
          exact ⟨ret_int (HYE.out Q.out), below_of_new HB.out⟩
      · have q : chk2 B P I J = false := by have := E1.out; simp [chk2]; omega
        have Q := Lib.hid q
        clear q
        go_enter Try.func106, Try.ntmps106
        go_wp2_with (first | (go_at_call 75; refine (within_any _ _ _ _).mono ?_; rintro e w' ⟨rfl, rfl⟩) | (go_at_call 107; refine (rgroups_any _ _ _ _ _ (by assumption) (by assumption) (by assumption) (by assumption)).mono ?_; rintro e w1 ⟨rfl, hb⟩; obtain ⟨c0, c1, c2, c3⟩ := geo_cell (by simpa using hb); have HB := Lib.hid hb; clear hb))
        all_goals
          go_ret
          exact ⟨ret_int (HNO.out Q.out), below_of_new HB.out⟩
    · have q : chk2 B P I J = false := by simp [chk2]; omega
      have Q := Lib.hid q
      clear q
      have hm : B < P := by omega
      go_enter Try.func106, Try.ntmps106
      go_wp2_with (first | (go_at_call 75; refine (within_any _ _ _ _).mono ?_; rintro e w' ⟨rfl, rfl⟩) | (go_at_call 107; refine (rgroups_any _ _ _ _ _ (by assumption) (by assumption) (by assumption) (by assumption)).mono ?_; rintro e w1 ⟨rfl, hb⟩; obtain ⟨c0, c1, c2, c3⟩ := geo_cell (by simpa using hb); have HB := Lib.hid hb; clear hb))
      all_goals
        go_ret
        exact ⟨ret_int (HNO.out Q.out), below_of_new HB.out⟩
  · have q : chk2 B P I J = false := by simp [chk2]; omega
    have Q := Lib.hid q
    clear q
    by_cases hm : B < P
    · have q3 : ¬ 5 + J + I / 2 ≤ B := by omega
      go_enter Try.func106, Try.ntmps106
      go_wp2_with (first | (go_at_call 75; refine (within_any _ _ _ _).mono ?_; rintro e w' ⟨rfl, rfl⟩) | (go_at_call 107; refine (rgroups_any _ _ _ _ _ (by assumption) (by assumption) (by assumption) (by assumption)).mono ?_; rintro e w1 ⟨rfl, hb⟩; obtain ⟨c0, c1, c2, c3⟩ := geo_cell (by simpa using hb); have HB := Lib.hid hb; clear hb))
      all_goals
        go_ret
        exact ⟨ret_int (HNO.out Q.out), below_of_new HB.out⟩
    · go_enter Try.func106, Try.ntmps106
      go_wp2_with (first | (go_at_call 75; refine (within_any _ _ _ _).mono ?_; rintro e w' ⟨rfl, rfl⟩) | (go_at_call 107; refine (rgroups_any _ _ _ _ _ (by assumption) (by assumption) (by assumption) (by assumption)).mono ?_; rintro e w1 ⟨rfl, hb⟩; obtain ⟨c0, c1, c2, c3⟩ := geo_cell (by simpa using hb); have HB := Lib.hid hb; clear hb))
      all_goals
        go_ret
        exact ⟨ret_int (HNO.out Q.out), below_of_new HB.out⟩

theorem rcheck_any (B P I J : Int) (w : World) :
    Calls Try.prog 106 #[.agg #[.int .i64 B, .int .i64 P, .int .i64 I, .int .i64 J]] w fun e w' => e = .returned (.int .i64 (chk B P I J)) ∧ Below w.heap.size w w' := by
  cases h : chk1 B P I J
  · refine (rcheck_out B P I J w h).mono fun e w' ⟨he, hw⟩ => ⟨he.trans (ret_int ?_), hw⟩
    simp [chk, gok, h]
  · exact rcheck_in B P I J w h

theorem rGroups_any (B P I J : Int) (w : World) :
    Calls Try.prog 94 #[.agg #[.int .i64 B, .int .i64 P, .int .i64 I, .int .i64 J]] w fun e w' => e = .returned (.int .i64 (grp B P I J)) ∧ Below w.heap.size w w' := by
  cases h : gok B P I J
  · have hc : (chk B P I J != 0) = true := by simp [chk, h]
    have hz := grp_no h
    have HZ := Lib.hid hz
    clear hz h
    go_enter Try.func94, Try.ntmps94
    go_wp2_with (go_at_call 106; refine (rcheck_any _ _ _ _ _).mono ?_; rintro e w1 ⟨rfl, hb⟩)
    go_ret
    exact ⟨ret_int HZ.out.symm, below_of_new hb⟩
  · have hc : (chk B P I J != 0) = false := by simp [chk, h]
    have hz := grp_yes h
    have HZ := Lib.hid hz
    have G := Geo.of h
    have b1 := G.b1; have b2 := G.b2; have p1 := G.p1; have p2 := G.p2
    clear hz h G
    go_enter Try.func94, Try.ntmps94
    go_wp2_with (first | (go_at_call 106; refine (rcheck_any _ _ _ _ _).mono ?_; rintro e w1 ⟨rfl, hb⟩; obtain ⟨g0, g1, g2, g3⟩ := geo_cell (by simpa using hb); have HB := Lib.hid hb; clear hb) | (go_at_call 107; refine (rgroups_any _ _ _ _ _ (by assumption) (by assumption) (by assumption) (by assumption)).mono ?_; rintro e w2 ⟨rfl, hb2⟩; have HB2 := Lib.hid hb2; clear hb2))
    go_ret
    exact ⟨ret_int HZ.out.symm, (below_of_new HB.out).trans (HB2.out.mono (below_of_new HB.out).size)⟩
end Go.Proofs.Ytafonjnanfekkaa.Lay
