
/-
  THE WALKS of the document's layer 4 (hayrickref04), second part: Span, Place, Fixed, InodeAt.
-/
import Derived.Test.YtafonjnanfekkaaLayR
namespace Go.Proofs.Ytafonjnanfekkaa.Lay
open Go.RowKit
set_option maxHeartbeats 8000000
set_option linter.unusedVariables false
set_option linter.unusedSimpArgs false

theorem rfixed_any (B P I J : Int) (w : World) :
    Calls Try.prog 95 #[.agg #[.int .i64 B, .int .i64 P, .int .i64 I, .int .i64 J]] w fun e w' => e = .returned (.int .i64 (fixd B P I J)) ∧ Below w.heap.size w w' := by
  cases h : gok B P I J
  · have hz : fixd B P I J = 0 := by simp [fixd, h]
    have HZ := Lib.hid hz
    have hg : (grp B P I J == 0) = true := by simp [grp, h]
    clear hz h
    go_enter Try.func95, Try.ntmps95
    go_wp2_with (go_at_call 94; refine (rGroups_any _ _ _ _ _).mono ?_; rintro e w1 ⟨rfl, hb⟩; have HB := Lib.hid hb; clear hb)
    go_ret
    exact ⟨ret_int HZ.out.symm, below_of_new HB.out⟩
  · have G := Geo.of h
    have n1 := G.n1; have n2 := G.n2; have i1 := G.i1; have i2 := G.i2; have j1 := G.j1; have j2 := G.j2
    have hgy := grp_yes h
    have hz : fixd B P I J = 2 + J + grp B P I J * (2 + I / 2) := by rw [hgy]; simp [fixd, h]
    have HZ := Lib.hid hz
    have hg : (grp B P I J == 0) = false := by rw [hgy]; simp; omega
    have hi0 : 0 ≤ I / 2 := Int.ediv_nonneg (by omega) (by omega)
    have m0 : 0 ≤ grp B P I J * (2 + I / 2) := Int.mul_nonneg (by omega) (by omega)
    have m1 : grp B P I J * (2 + I / 2) ≤ 14 * 258 := Int.mul_le_mul (by omega) (by omega) (by omega) (by omega)
    clear hz h hgy G n1 n2
    go_enter Try.func95, Try.ntmps95
    go_wp2_with (go_at_call 94; refine (rGroups_any _ _ _ _ _).mono ?_; rintro e w1 ⟨rfl, hb⟩; obtain ⟨c0, c1, c2, c3⟩ := geo_cell (by simpa using hb); have HB := Lib.hid hb; clear hb)
    go_ret
    exact ⟨ret_int HZ.out.symm, below_of_new HB.out⟩

end Go.Proofs.Ytafonjnanfekkaa.Lay
