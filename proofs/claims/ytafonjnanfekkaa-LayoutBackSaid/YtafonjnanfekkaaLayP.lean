
/-
  THE LAWS LayoutPlaces and LayoutMore of layer 4: the walks of the law's own text.
-/
import Derived.Test.YtafonjnanfekkaaLayF
import Derived.Test.YtafonjnanfekkaaLayS
import Derived.Outline
namespace Go.Proofs.Ytafonjnanfekkaa.Lay
open Go.RowKit
set_option maxHeartbeats 8000000
set_option linter.unusedVariables false
set_option linter.unusedSimpArgs false

/-- A geometry that lies in block b. -/
def GeoAt (w : World) (b : Nat) (B P I J : Int) : Prop :=
  w.cell? ⟨b, 0, none⟩ = some (.int .i64 B) ∧ w.cell? ⟨b, 1, none⟩ = some (.int .i64 P) ∧ w.cell? ⟨b, 2, none⟩ = some (.int .i64 I) ∧ w.cell? ⟨b, 3, none⟩ = some (.int .i64 J)
theorem GeoAt.out {w : World} {b : Nat} {B P I J : Int} (h : GeoAt w b B P I J) :
    w.cell? ⟨b, 0, none⟩ = some (.int .i64 B) ∧ w.cell? ⟨b, 1, none⟩ = some (.int .i64 P) ∧ w.cell? ⟨b, 2, none⟩ = some (.int .i64 I) ∧ w.cell? ⟨b, 3, none⟩ = some (.int .i64 J) := h
theorem GeoAt.below {w w1 : World} {b : Nat} {B P I J : Int} (h : GeoAt w b B P I J) (hb : Below w.heap.size w w1) : GeoAt w1 b B P I J := by
  have hlt : b < w.heap.size := World.block_lt_of_cell? w _ h.1
  exact ⟨(hb.cell hlt).trans h.1, (hb.cell hlt).trans h.2.1, (hb.cell hlt).trans h.2.2.1, (hb.cell hlt).trans h.2.2.2⟩
theorem GeoAt.new (w : World) (t : TypeId) (B P I J : Int) : GeoAt (w.alloc (.cells #[.int .i64 B, .int .i64 P, .int .i64 I, .int .i64 J] t)) w.heap.size B P I J := by
  refine ⟨?_, ?_, ?_, ?_⟩ <;> simp [go_sem]


/-- The document's examples hold. -/
theorem awake_any (w : World) : Calls Try.prog 21 #[] w fun e w' => e = .returned (.bool true) ∧ Below w.heap.size w w' := by
  have e1 : spanA 300 200 16 96 1 = 200 := by decide
  have e2 : spanB 300 200 16 96 1 = 300 := by decide
  have e3 : spanE 300 200 16 96 1 = 0 := by decide
  have e4 : placeA 300 200 16 96 0 = 98 := by decide
  have e5 : placeB 300 200 16 96 0 = 99 := by decide
  have e6 : placeC 300 200 16 96 0 = 100 := by decide
  have e7 : placeD 300 200 16 96 0 = 108 := by decide
  have e8 : spanE 300 200 16 96 0 = 0 := by decide
  have e9 : inoA 300 200 16 96 18 = 202 := by decide
  have e10 : inoB 300 200 16 96 18 = 128 := by decide
  have e11 : inoE 300 200 16 96 18 = 0 := by decide
  have e12 : inoE 300 200 16 96 33 = 22 := by decide
  have e13 : chk 300 200 16 96 = 0 := by decide
  have e14 : chk 300 108 16 96 = 22 := by decide
  have e15 : grp 300 200 16 96 = 2 := by decide
  have e16 : fixd 300 200 16 96 = 118 := by decide
  go_enter Try.func21, Try.ntmps21
  go_wp2_with fail
  have g0 := (GeoAt.new w 37 300 200 16 96).below ((Below.refl _ _).alloc (Nat.le_refl _) (.cells #[.int .i64 300, .int .i64 108, .int .i64 16, .int .i64 96] 37))
  have g1 := GeoAt.new (w.alloc (.cells #[.int .i64 300, .int .i64 200, .int .i64 16, .int .i64 96] 37)) 37 300 108 16 96
  have hb0 := ((Below.refl w.heap.size w).alloc (Nat.le_refl _) (.cells #[.int .i64 300, .int .i64 200, .int .i64 16, .int .i64 96] 37)).alloc (by simp) (.cells #[.int .i64 300, .int .i64 108, .int .i64 16, .int .i64 96] 37)
  refine (lspan_any _ _ _ _ _ _).mono ?_
  rintro e w1 ⟨rfl, hb⟩
  have HB := Lib.hid (hb0.trans (hb.mono hb0.size))
  have G := g0.below hb
  have S := g1.below hb
  rw [World.size_alloc] at S
  obtain ⟨c0, c1, c2, c3⟩ := G.out
  obtain ⟨s0, s1, s2, s3⟩ := S.out
  clear hb g0 g1 hb0
  go_wp2_with (first | (go_at_call 60; refine (lplace_any _ _ _ _ _ _).mono ?_; rintro e w2 ⟨rfl, hb⟩; replace HB := Lib.hid (HB.out.trans (hb.mono HB.out.size)); clear c0 c1 c2 c3 s0 s1 s2 s3; replace G := G.below hb; replace S := S.below hb; obtain ⟨c0, c1, c2, c3⟩ := G.out; obtain ⟨s0, s1, s2, s3⟩ := S.out; clear hb) | (go_at_call 61; refine (linode_any _ _ _ _ _ _).mono ?_; rintro e w2 ⟨rfl, hb⟩; replace HB := Lib.hid (HB.out.trans (hb.mono HB.out.size)); clear c0 c1 c2 c3 s0 s1 s2 s3; replace G := G.below hb; replace S := S.below hb; obtain ⟨c0, c1, c2, c3⟩ := G.out; obtain ⟨s0, s1, s2, s3⟩ := S.out; clear hb) | (go_at_call 43; refine (lcheck_any _ _ _ _ _).mono ?_; rintro e w2 ⟨rfl, hb⟩; replace HB := Lib.hid (HB.out.trans (hb.mono HB.out.size)); clear c0 c1 c2 c3 s0 s1 s2 s3; replace G := G.below hb; replace S := S.below hb; obtain ⟨c0, c1, c2, c3⟩ := G.out; obtain ⟨s0, s1, s2, s3⟩ := S.out; clear hb) | (go_at_call 62; refine (lgroups_any _ _ _ _ _).mono ?_; rintro e w2 ⟨rfl, hb⟩; replace HB := Lib.hid (HB.out.trans (hb.mono HB.out.size)); clear c0 c1 c2 c3 s0 s1 s2 s3; replace G := G.below hb; replace S := S.below hb; obtain ⟨c0, c1, c2, c3⟩ := G.out; obtain ⟨s0, s1, s2, s3⟩ := S.out; clear hb) | (go_at_call 63; refine (lfixed_any _ _ _ _ _).mono ?_; rintro e w2 ⟨rfl, hb⟩; replace HB := Lib.hid (HB.out.trans (hb.mono HB.out.size)); clear c0 c1 c2 c3 s0 s1 s2 s3; replace G := G.below hb; replace S := S.below hb; obtain ⟨c0, c1, c2, c3⟩ := G.out; obtain ⟨s0, s1, s2, s3⟩ := S.out; clear hb))
  go_ret
  exact ⟨rfl, HB.out⟩

end Go.Proofs.Ytafonjnanfekkaa.Lay
