/-
  THE LAW LayoutMore of layer 4: the walk of the law's own text.
-/
import Derived.Test.YtoikmdpcdghnlaaLayP
namespace Go.Proofs.Ytoikmdpcdghnlaa.Lay
open Go.RowKit
set_option maxHeartbeats 8000000
set_option linter.unusedVariables false
set_option linter.unusedSimpArgs false

theorem and_mask (x : Int) : 0 ≤ bits .and .i64 x 1023 ∧ bits .and .i64 x 1023 ≤ 1023 := by
  show 0 ≤ IntKind.i64.wrap ((BitVec.ofInt 64 x &&& BitVec.ofInt 64 1023).toNat : Int) ∧ IntKind.i64.wrap ((BitVec.ofInt 64 x &&& BitVec.ofInt 64 1023).toNat : Int) ≤ 1023
  have h : (BitVec.ofInt 64 x &&& BitVec.ofInt 64 1023).toNat ≤ 1023 := by
    rw [BitVec.toNat_and]
    exact Nat.and_le_right
  generalize (BitVec.ofInt 64 x &&& BitVec.ofInt 64 1023).toNat = n at h
  rw [IntKind.wrap_i64]
  omega

theorem more_same {B B' P I J g : Int} (h : gok B P I J = true) (h' : gok B' P I J = true) (hB : B ≤ B') (hg : isg B P I J g = true) :
    placeA B' P I J g = placeA B P I J g ∧ placeB B' P I J g = placeB B P I J g ∧ placeC B' P I J g = placeC B P I J g ∧ placeD B' P I J g = placeD B P I J g ∧ spanE B' P I J g = 0 ∧ grp B P I J ≤ grp B' P I J := by
  obtain ⟨_, g0, g1⟩ := isg_true hg
  have hle : (B - 1) / P ≤ (B' - 1) / P := Int.ediv_le_ediv (by have := (Geo.of h).p1; omega) (by omega)
  have hg' := isg_mk h' g0 (by omega)
  simp [placeA, placeB, placeC, placeD, spanE, hg, hg', grp_yes h, grp_yes h']
  exact hle


theorem GeoAt.lt {w : World} {b : Nat} {B P I J : Int} (h : GeoAt w b B P I J) : b < w.heap.size := World.block_lt_of_cell? w _ h.1

theorem layoutMore_walk (B P I J m g : Int) (w : World) :
    Calls Try.prog 5 #[.agg #[.int .i64 B, .int .i64 P, .int .i64 I, .int .i64 J], .int .i64 m, .int .i64 g] w fun e w' => e = .returned (.bool true) ∧ Below w.heap.size w w' := by
  obtain ⟨m', hm⟩ : ∃ m', bits .and .i64 m 1023 = m' := ⟨_, rfl⟩
  obtain ⟨m0, m1⟩ : 0 ≤ m' ∧ m' ≤ 1023 := by rw [← hm]; exact and_mask m
  obtain ⟨B', hB⟩ : ∃ B', wrap64 (B + m') = B' := ⟨_, rfl⟩
  have start : ∀ (Q : World → Prop), (∀ w1, Below w.heap.size w w1 → GeoAt w1 w.heap.size B P I J → Q w1) → ∀ w1, Below (w.alloc (.cells #[.int .i64 B, .int .i64 P, .int .i64 I, .int .i64 J] 23)).heap.size (w.alloc (.cells #[.int .i64 B, .int .i64 P, .int .i64 I, .int .i64 J] 23)) w1 → Q w1 := fun Q hQ w1 hb =>
    hQ w1 (below_of_new hb) ((GeoAt.new w 23 B P I J).below hb)
  cases h : gok B P I J
  · have hc : (chk B P I J != 0) = true := by simp [chk, h]
    clear h
    go_enter Try.func5, Try.ntmps5
    go_wp2_with fail
    refine (awake_any _).mono ?_
    rintro e w1 ⟨rfl, hb⟩
    have HB := Lib.hid (below_of_new hb)
    have G := (GeoAt.new w 23 B P I J).below hb
    obtain ⟨c0, c1, c2, c3⟩ := G.out
    have hlt := G.lt
    clear hb start
    go_wp2_with fail
    refine (lcheck_any _ _ _ _ _).mono ?_
    rintro e w2 ⟨rfl, hb⟩
    have HB2 := Lib.hid hb
    clear hb
    go_wp2_with fail
    go_ret
    exact ⟨rfl, (HB.out).trans ((below_of_new HB2.out).mono HB.out.size)⟩
  · have G0 := Geo.of h
    have b1 := G0.b1; have b2 := G0.b2
    have hBe : B + m' = B' := by rw [← hB]; unfold wrap64; omega
    clear hB
    have hc : (chk B P I J != 0) = false := by simp [chk, h]
    cases h' : gok B' P I J
    · have hc' : (chk B' P I J != 0) = true := by simp [chk, h']
      clear h h' G0
      go_enter Try.func5, Try.ntmps5
      go_wp2_with fail
      refine (awake_any _).mono ?_; rintro e w1 ⟨rfl, hb⟩; have HB := Lib.hid (below_of_new hb); have G := (GeoAt.new w 23 B P I J).below hb; obtain ⟨c0, c1, c2, c3⟩ := G.out; have hlt := G.lt; clear hb start
      go_wp2_with fail
      refine (lcheck_any _ _ _ _ _).mono ?_; rintro e w2 ⟨rfl, hb⟩; have S := (GeoAt.new w1 23 B' P I J).below hb; replace G := (G.below ((Below.refl _ w1).alloc (Nat.le_refl _) _)).below hb; replace HB := Lib.hid (HB.out.trans ((below_of_new hb).mono HB.out.size)); clear c0 c1 c2 c3 hlt; obtain ⟨c0, c1, c2, c3⟩ := G.out; obtain ⟨s0, s1, s2, s3⟩ := S.out; clear hb
      go_wp2_with (first | (go_at_call 9; refine (lplace_any _ _ _ _ _ _).mono ?_; rintro e w2 ⟨rfl, hb⟩; replace HB := Lib.hid (HB.out.trans (hb.mono HB.out.size)); clear c0 c1 c2 c3 s0 s1 s2 s3; replace G := G.below hb; replace S := S.below hb; obtain ⟨c0, c1, c2, c3⟩ := G.out; obtain ⟨s0, s1, s2, s3⟩ := S.out; clear hb) | (go_at_call 13; refine (lcheck_any _ _ _ _ _).mono ?_; rintro e w2 ⟨rfl, hb⟩; replace HB := Lib.hid (HB.out.trans (hb.mono HB.out.size)); clear c0 c1 c2 c3 s0 s1 s2 s3; replace G := G.below hb; replace S := S.below hb; obtain ⟨c0, c1, c2, c3⟩ := G.out; obtain ⟨s0, s1, s2, s3⟩ := S.out; clear hb))
      go_ret
      exact ⟨rfl, HB.out⟩
    · have hc' : (chk B' P I J != 0) = false := by simp [chk, h']
      cases hg : isg B P I J g
      · have he : (spanE B P I J g != 0) = true := by simp [spanE, hg]
        clear h h' G0 hg
        go_enter Try.func5, Try.ntmps5
        go_wp2_with fail
        refine (awake_any _).mono ?_; rintro e w1 ⟨rfl, hb⟩; have HB := Lib.hid (below_of_new hb); have G := (GeoAt.new w 23 B P I J).below hb; obtain ⟨c0, c1, c2, c3⟩ := G.out; have hlt := G.lt; clear hb start
        go_wp2_with fail
        refine (lcheck_any _ _ _ _ _).mono ?_; rintro e w2 ⟨rfl, hb⟩; have S := (GeoAt.new w1 23 B' P I J).below hb; replace G := (G.below ((Below.refl _ w1).alloc (Nat.le_refl _) _)).below hb; replace HB := Lib.hid (HB.out.trans ((below_of_new hb).mono HB.out.size)); clear c0 c1 c2 c3 hlt; obtain ⟨c0, c1, c2, c3⟩ := G.out; obtain ⟨s0, s1, s2, s3⟩ := S.out; clear hb
        go_wp2_with (first | (go_at_call 9; refine (lplace_any _ _ _ _ _ _).mono ?_; rintro e w2 ⟨rfl, hb⟩; replace HB := Lib.hid (HB.out.trans (hb.mono HB.out.size)); clear c0 c1 c2 c3 s0 s1 s2 s3; replace G := G.below hb; replace S := S.below hb; obtain ⟨c0, c1, c2, c3⟩ := G.out; obtain ⟨s0, s1, s2, s3⟩ := S.out; clear hb) | (go_at_call 13; refine (lcheck_any _ _ _ _ _).mono ?_; rintro e w2 ⟨rfl, hb⟩; replace HB := Lib.hid (HB.out.trans (hb.mono HB.out.size)); clear c0 c1 c2 c3 s0 s1 s2 s3; replace G := G.below hb; replace S := S.below hb; obtain ⟨c0, c1, c2, c3⟩ := G.out; obtain ⟨s0, s1, s2, s3⟩ := S.out; clear hb))
        go_ret
        exact ⟨rfl, HB.out⟩
      · have he : (spanE B P I J g != 0) = false := by simp [spanE, hg]
        obtain ⟨e1, e2, e3, e4, e5, e6⟩ := more_same h h' (by omega) hg
        clear h h' G0 hg
        have hd : decide (grp B P I J ≤ grp B' P I J) = true := by simpa using e6
        go_enter Try.func5, Try.ntmps5
        go_wp2_with fail
        refine (awake_any _).mono ?_; rintro e w1 ⟨rfl, hb⟩; have HB := Lib.hid (below_of_new hb); have G := (GeoAt.new w 23 B P I J).below hb; obtain ⟨c0, c1, c2, c3⟩ := G.out; have hlt := G.lt; clear hb start
        go_wp2_with fail
        refine (lcheck_any _ _ _ _ _).mono ?_; rintro e w2 ⟨rfl, hb⟩; have S := (GeoAt.new w1 23 B' P I J).below hb; replace G := (G.below ((Below.refl _ w1).alloc (Nat.le_refl _) _)).below hb; replace HB := Lib.hid (HB.out.trans ((below_of_new hb).mono HB.out.size)); clear c0 c1 c2 c3 hlt; obtain ⟨c0, c1, c2, c3⟩ := G.out; obtain ⟨s0, s1, s2, s3⟩ := S.out; clear hb
        go_wp2_with (first | (go_at_call 9; refine (lplace_any _ _ _ _ _ _).mono ?_; rintro e w2 ⟨rfl, hb⟩; replace HB := Lib.hid (HB.out.trans (hb.mono HB.out.size)); clear c0 c1 c2 c3 s0 s1 s2 s3; replace G := G.below hb; replace S := S.below hb; obtain ⟨c0, c1, c2, c3⟩ := G.out; obtain ⟨s0, s1, s2, s3⟩ := S.out; clear hb) | (go_at_call 13; refine (lcheck_any _ _ _ _ _).mono ?_; rintro e w2 ⟨rfl, hb⟩; replace HB := Lib.hid (HB.out.trans (hb.mono HB.out.size)); clear c0 c1 c2 c3 s0 s1 s2 s3; replace G := G.below hb; replace S := S.below hb; obtain ⟨c0, c1, c2, c3⟩ := G.out; obtain ⟨s0, s1, s2, s3⟩ := S.out; clear hb))
        replace HB := Lib.hid HB.out.drew
        replace G : GeoAt w2.drew w.heap.size B P I J := G
        replace S : GeoAt w2.drew w1.heap.size B' P I J := S
        go_region_held3 (fun w' => (w'.cell? ⟨w.heap.size, 0, none⟩ = some (.int .i64 B) ∧ w'.cell? ⟨w.heap.size, 1, none⟩ = some (.int .i64 P) ∧ w'.cell? ⟨w.heap.size, 2, none⟩ = some (.int .i64 I) ∧ w'.cell? ⟨w.heap.size, 3, none⟩ = some (.int .i64 J)) ∧ (w'.cell? ⟨w1.heap.size, 0, none⟩ = some (.int .i64 B') ∧ w'.cell? ⟨w1.heap.size, 1, none⟩ = some (.int .i64 P) ∧ w'.cell? ⟨w1.heap.size, 2, none⟩ = some (.int .i64 I) ∧ w'.cell? ⟨w1.heap.size, 3, none⟩ = some (.int .i64 J)))
          (first | go_keep | exact ⟨G.out, S.out⟩)
          (first | (go_simp; go_at_call 15; refine (lgroups_any _ _ _ _ _).mono ?_; rintro e w2 ⟨rfl, hb⟩; replace HB := Lib.hid (HB.out.trans (hb.mono HB.out.size)); clear c0 c1 c2 c3 s0 s1 s2 s3; replace G := G.below hb; replace S := S.below hb; obtain ⟨c0, c1, c2, c3⟩ := G.out; obtain ⟨s0, s1, s2, s3⟩ := S.out; clear hb))
        go_wp2
        go_ret
        exact ⟨rfl, HB.out⟩
end Go.Proofs.Ytoikmdpcdghnlaa.Lay
