/-
  THE LAWS LayoutPlaces and LayoutMore of layer 4: the walks of the law's own text.
-/
import Derived.Test.YtoikmdpcdghnlaaLayF
import Derived.Test.YtoikmdpcdghnlaaLayS
import Derived.Outline
namespace Go.Proofs.Ytoikmdpcdghnlaa.Lay
open Go.RowKit
set_option maxHeartbeats 8000000
set_option linter.unusedVariables false
set_option linter.unusedSimpArgs false

/-- A geometry that lies in block b. -/
def GeoAt (w : World) (b : Nat) (B P I J : Int) : Prop :=
  w.cell? ⟨b, 0, none⟩ = some (.int .i64 B) ∧ w.cell? ⟨b, 1, none⟩ = some (.int .i64 P) ∧ w.cell? ⟨b, 2, none⟩ = some (.int .i64 I) ∧ w.cell? ⟨b, 3, none⟩ = some (.int .i64 J)
theorem GeoAt.out {w : World} {b : Nat} {B P I J : Int} (h : GeoAt w b B P I J) :
    w.cell? ⟨b, 0, none⟩ = some (.int .i64 B) ∧ w.cell? ⟨b, 1, none⟩ = some (.int .i64 P) ∧ w.cell? ⟨b, 2, none⟩ = some (.int .i64 I) ∧ w.cell? ⟨b, 3, none⟩ = some (.int .i64 J) := h
theorem GeoAt.below {w w1 : World} {b : Nat} {B P I J : Int} (h : GeoAt w b B P I J) (hb : Below w.heap.size w w1) : GeoAt w1 b B P I J := by
  have hlt : b < w.heap.size := World.block_lt_of_cell? w _ h.1
  exact ⟨(hb.cell hlt).trans h.1, (hb.cell hlt).trans h.2.1, (hb.cell hlt).trans h.2.2.1, (hb.cell hlt).trans h.2.2.2⟩
theorem GeoAt.new (w : World) (t : TypeId) (B P I J : Int) : GeoAt (w.alloc (.cells #[.int .i64 B, .int .i64 P, .int .i64 I, .int .i64 J] t)) w.heap.size B P I J := by
  refine ⟨?_, ?_, ?_, ?_⟩ <;> simp [go_sem]


/-- The document's examples hold. -/
theorem awake_any (w : World) : Calls Try.prog 6 #[] w fun e w' => e = .returned (.bool true) ∧ Below w.heap.size w w' := by
  have e1 : spanA 300 200 16 96 1 = 200 := by decide
  have e2 : spanB 300 200 16 96 1 = 300 := by decide
  have e3 : spanE 300 200 16 96 1 = 0 := by decide
  have e4 : placeA 300 200 16 96 0 = 98 := by decide
  have e5 : placeB 300 200 16 96 0 = 99 := by decide
  have e6 : placeC 300 200 16 96 0 = 100 := by decide
  have e7 : placeD 300 200 16 96 0 = 108 := by decide
  have e8 : spanE 300 200 16 96 0 = 0 := by decide
  have e9 : inoA 300 200 16 96 18 = 202 := by decide
  have e10 : inoB 300 200 16 96 18 = 128 := by decide
  have e11 : inoE 300 200 16 96 18 = 0 := by decide
  have e12 : inoE 300 200 16 96 33 = 22 := by decide
  have e13 : chk 300 200 16 96 = 0 := by decide
  have e14 : chk 300 108 16 96 = 22 := by decide
  have e15 : grp 300 200 16 96 = 2 := by decide
  have e16 : fixd 300 200 16 96 = 118 := by decide
  go_enter Try.func6, Try.ntmps6
  go_wp2_with fail
  have g0 := (GeoAt.new w 23 300 200 16 96).below ((Below.refl _ _).alloc (Nat.le_refl _) (.cells #[.int .i64 300, .int .i64 108, .int .i64 16, .int .i64 96] 23))
  have g1 := GeoAt.new (w.alloc (.cells #[.int .i64 300, .int .i64 200, .int .i64 16, .int .i64 96] 23)) 23 300 108 16 96
  have hb0 := ((Below.refl w.heap.size w).alloc (Nat.le_refl _) (.cells #[.int .i64 300, .int .i64 200, .int .i64 16, .int .i64 96] 23)).alloc (by simp) (.cells #[.int .i64 300, .int .i64 108, .int .i64 16, .int .i64 96] 23)
  refine (lspan_any _ _ _ _ _ _).mono ?_
  rintro e w1 ⟨rfl, hb⟩
  have HB := Lib.hid (hb0.trans (hb.mono hb0.size))
  have G := g0.below hb
  have S := g1.below hb
  rw [World.size_alloc] at S
  obtain ⟨c0, c1, c2, c3⟩ := G.out
  obtain ⟨s0, s1, s2, s3⟩ := S.out
  clear hb g0 g1 hb0
  go_wp2_with (first | (go_at_call 9; refine (lplace_any _ _ _ _ _ _).mono ?_; rintro e w2 ⟨rfl, hb⟩; replace HB := Lib.hid (HB.out.trans (hb.mono HB.out.size)); clear c0 c1 c2 c3 s0 s1 s2 s3; replace G := G.below hb; replace S := S.below hb; obtain ⟨c0, c1, c2, c3⟩ := G.out; obtain ⟨s0, s1, s2, s3⟩ := S.out; clear hb) | (go_at_call 11; refine (linode_any _ _ _ _ _ _).mono ?_; rintro e w2 ⟨rfl, hb⟩; replace HB := Lib.hid (HB.out.trans (hb.mono HB.out.size)); clear c0 c1 c2 c3 s0 s1 s2 s3; replace G := G.below hb; replace S := S.below hb; obtain ⟨c0, c1, c2, c3⟩ := G.out; obtain ⟨s0, s1, s2, s3⟩ := S.out; clear hb) | (go_at_call 13; refine (lcheck_any _ _ _ _ _).mono ?_; rintro e w2 ⟨rfl, hb⟩; replace HB := Lib.hid (HB.out.trans (hb.mono HB.out.size)); clear c0 c1 c2 c3 s0 s1 s2 s3; replace G := G.below hb; replace S := S.below hb; obtain ⟨c0, c1, c2, c3⟩ := G.out; obtain ⟨s0, s1, s2, s3⟩ := S.out; clear hb) | (go_at_call 15; refine (lgroups_any _ _ _ _ _).mono ?_; rintro e w2 ⟨rfl, hb⟩; replace HB := Lib.hid (HB.out.trans (hb.mono HB.out.size)); clear c0 c1 c2 c3 s0 s1 s2 s3; replace G := G.below hb; replace S := S.below hb; obtain ⟨c0, c1, c2, c3⟩ := G.out; obtain ⟨s0, s1, s2, s3⟩ := S.out; clear hb) | (go_at_call 17; refine (lfixed_any _ _ _ _ _).mono ?_; rintro e w2 ⟨rfl, hb⟩; replace HB := Lib.hid (HB.out.trans (hb.mono HB.out.size)); clear c0 c1 c2 c3 s0 s1 s2 s3; replace G := G.below hb; replace S := S.below hb; obtain ⟨c0, c1, c2, c3⟩ := G.out; obtain ⟨s0, s1, s2, s3⟩ := S.out; clear hb))
  go_ret
  exact ⟨rfl, HB.out⟩

theorem layoutPlaces_walk (B P I J g n : Int) (w : World) :
    Calls Try.prog 3 #[.agg #[.int .i64 B, .int .i64 P, .int .i64 I, .int .i64 J], .int .i64 g, .int .i64 n] w fun e w' => e = .returned (.bool true) ∧ Below w.heap.size w w' := by
  go_enter Try.func3, Try.ntmps3
  go_wp2_with fail
  have g0 := GeoAt.new w 23 B P I J
  have hb0 := (Below.refl w.heap.size w).alloc (Nat.le_refl _) (.cells #[.int .i64 B, .int .i64 P, .int .i64 I, .int .i64 J] 23)
  refine (awake_any _).mono ?_
  rintro e w1 ⟨rfl, hb⟩
  have HB := Lib.hid (hb0.trans (hb.mono hb0.size))
  have G := g0.below hb
  obtain ⟨c0, c1, c2, c3⟩ := G.out
  clear hb g0 hb0
  go_wp2_with (first | (go_at_call 7; refine (lspan_any _ _ _ _ _ _).mono ?_; rintro e w2 ⟨rfl, hb⟩; replace HB := Lib.hid (HB.out.trans (hb.mono HB.out.size)); clear c0 c1 c2 c3; replace G := G.below hb; obtain ⟨c0, c1, c2, c3⟩ := G.out; clear hb) | (go_at_call 8; refine (rspan_any _ _ _ _ _ _).mono ?_; rintro e w2 ⟨rfl, hb⟩; replace HB := Lib.hid (HB.out.trans (hb.mono HB.out.size)); clear c0 c1 c2 c3; replace G := G.below hb; obtain ⟨c0, c1, c2, c3⟩ := G.out; clear hb) | (go_at_call 9; refine (lplace_any _ _ _ _ _ _).mono ?_; rintro e w2 ⟨rfl, hb⟩; replace HB := Lib.hid (HB.out.trans (hb.mono HB.out.size)); clear c0 c1 c2 c3; replace G := G.below hb; obtain ⟨c0, c1, c2, c3⟩ := G.out; clear hb) | (go_at_call 10; refine (rplace_any _ _ _ _ _ _).mono ?_; rintro e w2 ⟨rfl, hb⟩; replace HB := Lib.hid (HB.out.trans (hb.mono HB.out.size)); clear c0 c1 c2 c3; replace G := G.below hb; obtain ⟨c0, c1, c2, c3⟩ := G.out; clear hb) | (go_at_call 11; refine (linode_any _ _ _ _ _ _).mono ?_; rintro e w2 ⟨rfl, hb⟩; replace HB := Lib.hid (HB.out.trans (hb.mono HB.out.size)); clear c0 c1 c2 c3; replace G := G.below hb; obtain ⟨c0, c1, c2, c3⟩ := G.out; clear hb) | (go_at_call 12; refine (rinode_any _ _ _ _ _ _).mono ?_; rintro e w2 ⟨rfl, hb⟩; replace HB := Lib.hid (HB.out.trans (hb.mono HB.out.size)); clear c0 c1 c2 c3; replace G := G.below hb; obtain ⟨c0, c1, c2, c3⟩ := G.out; clear hb) | (go_at_call 13; refine (lcheck_any _ _ _ _ _).mono ?_; rintro e w2 ⟨rfl, hb⟩; replace HB := Lib.hid (HB.out.trans (hb.mono HB.out.size)); clear c0 c1 c2 c3; replace G := G.below hb; obtain ⟨c0, c1, c2, c3⟩ := G.out; clear hb) | (go_at_call 14; refine (rcheck_any _ _ _ _ _).mono ?_; rintro e w2 ⟨rfl, hb⟩; replace HB := Lib.hid (HB.out.trans (hb.mono HB.out.size)); clear c0 c1 c2 c3; replace G := G.below hb; obtain ⟨c0, c1, c2, c3⟩ := G.out; clear hb) | (go_at_call 15; refine (lgroups_any _ _ _ _ _).mono ?_; rintro e w2 ⟨rfl, hb⟩; replace HB := Lib.hid (HB.out.trans (hb.mono HB.out.size)); clear c0 c1 c2 c3; replace G := G.below hb; obtain ⟨c0, c1, c2, c3⟩ := G.out; clear hb) | (go_at_call 16; refine (rGroups_any _ _ _ _ _).mono ?_; rintro e w2 ⟨rfl, hb⟩; replace HB := Lib.hid (HB.out.trans (hb.mono HB.out.size)); clear c0 c1 c2 c3; replace G := G.below hb; obtain ⟨c0, c1, c2, c3⟩ := G.out; clear hb) | (go_at_call 17; refine (lfixed_any _ _ _ _ _).mono ?_; rintro e w2 ⟨rfl, hb⟩; replace HB := Lib.hid (HB.out.trans (hb.mono HB.out.size)); clear c0 c1 c2 c3; replace G := G.below hb; obtain ⟨c0, c1, c2, c3⟩ := G.out; clear hb) | (go_at_call 18; refine (rfixed_any _ _ _ _ _).mono ?_; rintro e w2 ⟨rfl, hb⟩; replace HB := Lib.hid (HB.out.trans (hb.mono HB.out.size)); clear c0 c1 c2 c3; replace G := G.below hb; obtain ⟨c0, c1, c2, c3⟩ := G.out; clear hb))
  replace HB := Lib.hid HB.out.drew
  replace G : GeoAt w2.drew w.heap.size B P I J := G
  simp only [List.append_eq, List.cons_append, List.nil_append]
  go_region_held3 (fun w' => w'.cell? ⟨w.heap.size, 0, none⟩ = some (.int .i64 B) ∧ w'.cell? ⟨w.heap.size, 1, none⟩ = some (.int .i64 P) ∧ w'.cell? ⟨w.heap.size, 2, none⟩ = some (.int .i64 I) ∧ w'.cell? ⟨w.heap.size, 3, none⟩ = some (.int .i64 J))
    (first | go_keep | exact G.out)
    (first | (go_simp; go_at_call 13; refine (lcheck_any _ _ _ _ _).mono ?_; rintro e w2 ⟨rfl, hb⟩; replace HB := Lib.hid (HB.out.trans (hb.mono HB.out.size)); clear c0 c1 c2 c3; replace G := G.below hb; obtain ⟨c0, c1, c2, c3⟩ := G.out; clear hb) | (go_simp; go_at_call 14; refine (rcheck_any _ _ _ _ _).mono ?_; rintro e w2 ⟨rfl, hb⟩; replace HB := Lib.hid (HB.out.trans (hb.mono HB.out.size)); clear c0 c1 c2 c3; replace G := G.below hb; obtain ⟨c0, c1, c2, c3⟩ := G.out; clear hb) | (go_simp; go_at_call 15; refine (lgroups_any _ _ _ _ _).mono ?_; rintro e w2 ⟨rfl, hb⟩; replace HB := Lib.hid (HB.out.trans (hb.mono HB.out.size)); clear c0 c1 c2 c3; replace G := G.below hb; obtain ⟨c0, c1, c2, c3⟩ := G.out; clear hb) | (go_simp; go_at_call 16; refine (rGroups_any _ _ _ _ _).mono ?_; rintro e w2 ⟨rfl, hb⟩; replace HB := Lib.hid (HB.out.trans (hb.mono HB.out.size)); clear c0 c1 c2 c3; replace G := G.below hb; obtain ⟨c0, c1, c2, c3⟩ := G.out; clear hb) | (go_simp; go_at_call 17; refine (lfixed_any _ _ _ _ _).mono ?_; rintro e w2 ⟨rfl, hb⟩; replace HB := Lib.hid (HB.out.trans (hb.mono HB.out.size)); clear c0 c1 c2 c3; replace G := G.below hb; obtain ⟨c0, c1, c2, c3⟩ := G.out; clear hb) | (go_simp; go_at_call 18; refine (rfixed_any _ _ _ _ _).mono ?_; rintro e w2 ⟨rfl, hb⟩; replace HB := Lib.hid (HB.out.trans (hb.mono HB.out.size)); clear c0 c1 c2 c3; replace G := G.below hb; obtain ⟨c0, c1, c2, c3⟩ := G.out; clear hb))
  go_wp2
  go_ret
  exact ⟨rfl, HB.out⟩
end Go.Proofs.Ytoikmdpcdghnlaa.Lay
